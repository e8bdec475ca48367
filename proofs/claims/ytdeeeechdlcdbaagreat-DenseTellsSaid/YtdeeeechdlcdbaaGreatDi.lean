/- Lists of phrases in memory; Few. -/
import Derived.Test.YtdeeeechdlcdbaaGreatChecked
import Derived.Test.YtdeeeechdlcdbaaGreatArgs
import Derived.Test.YtdeeeechdlcdbaaGreatBase
import Derived.Test.YtdeeeechdlcdbaaGreatShelf
import Derived.Test.YtdeeeechdlcdbaaGreatStep
set_option linter.unusedSimpArgs false
set_option linter.unusedVariables false
namespace Go.Proofs.YtdeeeechdlcdbaaGreat.DiA
open Go Go.RowKit Go.Proofs.YtdeeeechdlcdbaaGreat.Base

/-- A slice of strings, as a list. -/
def StrsAt (w : World) (A : Option Addr) (zs : List ByteArray) : Prop := 0 < zs.length → ∃ b off, A = some ⟨b, off, none⟩ ∧ b < w.heap.size ∧ ∀ j, j < zs.length → w.cell? ⟨b, off + j, none⟩ = some (.string (zs.getD j ByteArray.empty))
theorem cell_lt {w : World} {a : Addr} {v : Value} (h : w.cell? a = some v) : a.block < w.heap.size := by
  unfold World.cell? at h
  rcases Nat.lt_or_ge a.block w.heap.size with h1 | h1
  · exact h1
  · rw [Array.getElem?_eq_none h1] at h; cases h
theorem strsAt_of {w : World} {A : Option Addr} {n cap : Nat} {zs : List ByteArray} (h : Args.StrsIn w A n cap zs) : StrsAt w A zs := by
  intro hn
  obtain ⟨ad, hA, hc⟩ := h.at_ (by rw [h.len] at hn; exact hn)
  have h0 := hc 0 (by rw [h.len] at hn; exact hn)
  have hs : ad.spot = none := by
    unfold World.cell? Addr.add at h0
    rw [if_pos rfl] at h0
    cases hsp : ad.spot with
    | none => rfl
    | some x => rw [hsp] at h0; split at h0 <;> simp at h0
  have hlt := cell_lt h0
  refine ⟨ad.block, ad.off, ?_, by simpa [Addr.add] using hlt, fun j hj => ?_⟩
  · rw [hA]; obtain ⟨x, y, z⟩ := ad; simp at hs; subst hs; rfl
  · have := hc j (by rw [h.len] at hj; exact hj)
    rw [← this]
    unfold Addr.add
    by_cases h : j = 0
    · subst h; rw [if_pos rfl]; obtain ⟨x, y, z⟩ := ad; simp at hs; subst hs; rfl
    · rw [if_neg h]
theorem StrsAt.below {w w' : World} {A : Option Addr} {zs : List ByteArray} (h : StrsAt w A zs) (hb : Below w.heap.size w w') : StrsAt w' A zs := by
  intro hn
  obtain ⟨b, off, hA, hlt, hc⟩ := h hn
  exact ⟨b, off, hA, Nat.lt_of_lt_of_le hlt hb.size, fun j hj => pw_cell_below hb (hc j hj)⟩
/-- How many bytes the strings have together. -/
def total (zs : List ByteArray) : Nat := (zs.map (·.size)).sum
theorem total_succ {zs : List ByteArray} {k : Nat} (hk : k < zs.length) : total (zs.take (k + 1)) = total (zs.take k) + (zs.getD k ByteArray.empty).size := by
  have e : zs.getD k ByteArray.empty = zs[k] := by simp [List.getD_eq_getElem?_getD, hk]
  unfold total
  rw [e, List.take_succ_eq_append_getElem hk, List.map_append, List.sum_append]
  simp
def fewB (zs : List ByteArray) : Bool := decide (zs.length ≤ 110) && decide (total zs ≤ 1300)

set_option maxHeartbeats 1000000 in
theorem few_any (A : Option Addr) (n cap : Nat) (zs : List ByteArray) (w : World) (hn : n = zs.length) (h : StrsAt w A zs) (hsz : ∀ x ∈ zs, x.size ≤ 140737488351232) (hbig : n ≤ 140737488351232) :
    Calls Tryz.prog 7 #[.slice A n cap] w fun e w' => e = .returned (.bool (fewB zs)) ∧ w' = w := by
  have hnh : Hid (n = zs.length) := hn
  clear hn
  go_enter Tryz.func7, Tryz.ntmps7
  go_wp2_with fail
  go_loop [3, 8] (fun v i => ∃ (k : Nat) (x : Int), k ≤ n ∧ i = .int .i64 k ∧ v = .int .i64 x ∧ Hid (k ≤ 110 → x = (total (zs.take k) : Int) ∧ (total (zs.take k) : Int) ≤ k * 140737488351232)) (fun _ i => n - (intOf i).toNat)
  case atStart => exact ⟨0, 0, Nat.zero_le _, rfl, rfl, fun _ => ⟨rfl, by simp [total]⟩⟩
  case round =>
    obtain ⟨k, x, hk, rfl, rfl, hx⟩ := hrel
    have hn := hnh.out
    by_cases hlt : k < n
    · obtain ⟨b, off, rfl, _, hc⟩ := h (by omega)
      have hcell := hc k (by omega)
      have hm : zs.getD k ByteArray.empty ∈ zs := by
        rw [List.getD_eq_getElem?_getD, List.getElem?_eq_getElem (by omega)]; exact List.getElem_mem _
      have hs := hsz _ hm
      have ht := total_succ (zs := zs) (k := k) (by omega)
      generalize zs.getD k ByteArray.empty = s at hcell hs ht
      clear hc h hsz hm
      have ht2 : Hid (total (zs.take (k + 1)) = total (zs.take k) + s.size) := ht
      clear ht
      clear hn
      go_wp2_with fail
      go_round
      case rel =>
        refine ⟨k + 1, _, by omega, by go_num, rfl, fun h110 => ?_⟩
        obtain ⟨hx1, hx2⟩ := hx.out (by omega)
        rw [ht2.out, hx1]
        refine ⟨?_, by omega⟩
        unfold wrap64
        omega
      case measure => simp [intOf]; omega
    · have hkn : k = n := by omega
      subst hkn
      have hx2 : Hid (k ≤ 110 → x = (total zs : Int)) := fun h1 => by
        have := (hx.out h1).1
        rw [List.take_of_length_le (by omega)] at this
        exact this
      have hf : Hid (fewB zs = (decide ((k : Int) ≤ 110) && decide (x ≤ 1300))) := by
        show fewB zs = (decide ((k : Int) ≤ 110) && decide (x ≤ 1300))
        unfold fewB
        rw [← hn]
        by_cases h1 : k ≤ 110
        · rw [hx2.out h1]
          congr 1
          · simp; omega
          · simp; omega
        · have h2 : ¬ ((k : Int) ≤ 110) := by omega
          rw [decide_eq_false h1, decide_eq_false h2]
          rfl
      clear hx hx2 hn h hsz hnh
      cases h1 : decide ((k : Int) ≤ 110) <;> cases h2 : decide (x ≤ 1300)
      all_goals
        go_wp2_with fail
        go_ret
        refine ⟨ret_bool ?_, rfl⟩
        rw [hf.out]
        simp [h1, h2]
end Go.Proofs.YtdeeeechdlcdbaaGreat.DiA
/- The dictionary in memory; small calls. -/
set_option linter.unusedSimpArgs false
set_option linter.unusedVariables false
namespace Go.Proofs.YtdeeeechdlcdbaaGreat.DiB
open Go Go.RowKit Go.Proofs.YtdeeeechdlcdbaaGreat.Base Go.Proofs.YtdeeeechdlcdbaaGreat.DiA
theorem info9 : (Tryz.prog.info? 9).map (fun i => (i.zero, i.size, i.bytes)) = some (some (.string ⟨#[]⟩), 1, 16) := by kernel_rfl
/-- Which phrase may stand at k. -/
def goodAt (zs : List ByteArray) (k : Nat) : Bool := decide (1 ≤ (zs.getD k ByteArray.empty).size) && (decide ((zs.getD k ByteArray.empty).size ≤ 40) && (decide (total (zs.take (k + 1)) ≤ 1000) && !Lib.containsS (zs.take k) (zs.getD k ByteArray.empty)))
def okUpto (zs : List ByteArray) (k : Nat) : Bool := (List.range k).all (goodAt zs)
/-- May the phrases be a dictionary? -/
def okD (zs : List ByteArray) : Bool := decide (zs.length ≤ 100) && okUpto zs zs.length
theorem okUpto_succ (zs : List ByteArray) (k : Nat) : okUpto zs (k + 1) = (okUpto zs k && goodAt zs k) := by
  unfold okUpto; rw [List.range_succ, List.all_append]; simp
theorem okUpto_le {zs : List ByteArray} {k n : Nat} (h : k ≤ n) (hn : okUpto zs n = true) : okUpto zs k = true := by
  unfold okUpto at hn ⊢
  rw [List.all_eq_true] at hn ⊢
  intro i hi
  exact hn i (List.mem_range.2 (Nat.lt_of_lt_of_le (List.mem_range.1 hi) h))
theorem bad_at {zs : List ByteArray} {k : Nat} (hk : k < zs.length) (h : goodAt zs k = false) : okD zs = false := by
  cases ho : okD zs with
  | false => rfl
  | true =>
    unfold okD at ho
    rw [Bool.and_eq_true] at ho
    have := okUpto_le (k := k + 1) (by omega) ho.2
    rw [okUpto_succ, h, Bool.and_false] at this
    cases this
/-- Block p is a dictionary of these phrases; its row lies from B on. -/
def DictAt (B : Nat) (w : World) (p : Nat) (zs : List ByteArray) : Prop := ∃ v, w.heap[p]? = some (.cells #[v] 139 (0, 0)) ∧ w.ownsRow B 9 1 v zs.length (zs.map Value.string)
theorem DictAt.below {B : Nat} {w w' : World} {p : Nat} {zs : List ByteArray} (h : DictAt B w p zs) (hb : Below w.heap.size w w') : DictAt B w' p zs := by
  obtain ⟨v, h1, h2⟩ := h
  exact ⟨v, heap_below hb h1, own_below h2 hb⟩
set_option maxHeartbeats 400000 in
theorem clone_any (s : ByteArray) (w : World) (hs : s.size ≤ 281474976710656) : Calls Tryz.prog 107 #[.string s] w fun e w' => e = .returned (.string s) ∧ Below w.heap.size w w' := by
  go_enter Tryz.func107, Tryz.ntmps107
  go_wp2_with fail
  refine (Tryz.stringslite_Clone s _ hs).mono ?_
  rintro e w1 ⟨rfl, hb⟩
  go_wp2_with fail
  go_ret
  exact ⟨rfl, hb⟩
theorem own_cells {w : World} {base n : Nat} {v : Value} {zs : List ByteArray} (h : w.ownsRow base 9 1 v n (zs.map Value.string)) (hl : zs.length = n) : ∃ V cp, v = .slice V n cp ∧ StrsAt w V zs := by
  obtain ⟨V, cp, hv, hc⟩ := own_form h
  refine ⟨V, cp, hv, fun hn => ?_⟩
  obtain ⟨g, hV, hg, hcell⟩ := hc (by omega)
  refine ⟨g, 0, hV, hg, fun j hj => ?_⟩
  rw [Nat.zero_add]
  refine hcell j _ ?_
  simp [List.getD_eq_getElem?_getD, hj]
theorem contains_any (V : Option Addr) (n c : Nat) (zs : List ByteArray) (x : ByteArray) (w : World) (hn : n = zs.length) (hbig : n ≤ 1000) (h : StrsAt w V zs) :
    Calls Tryz.prog 106 #[.slice V n c, .string x] w fun e w' => e = .returned (.bool (Lib.containsS zs x)) ∧ w' = w := by
  rcases Nat.eq_zero_or_pos n with h0 | h0
  · have : zs = [] := List.eq_nil_of_length_eq_zero (by omega)
    subst this
    rw [h0]
    exact (Tryz.slices_Contains_string_empty V c x w).mono fun e w' he => by
      have e1 : Lib.containsS [] x = false := rfl
      rw [e1]; exact he
  · obtain ⟨b, off, rfl, _, hc⟩ := h (by omega)
    have := Tryz.slices_Contains_string b off n c zs x w (by omega) (by omega) hc
    rw [List.take_of_length_le (by omega)] at this
    exact this
end Go.Proofs.YtdeeeechdlcdbaaGreat.DiB
/- The walk of dict.New. -/
set_option linter.unusedSimpArgs false
set_option linter.unusedVariables false
namespace Go.Proofs.YtdeeeechdlcdbaaGreat.DiC
open Go Go.RowKit Go.Proofs.YtdeeeechdlcdbaaGreat.Base Go.Proofs.YtdeeeechdlcdbaaGreat.DiA Go.Proofs.YtdeeeechdlcdbaaGreat.DiB
/-- Behind dict.New. -/
def NewPost (w : World) (zs : List ByteArray) (e : Ending) (w' : World) : Prop := Below w.heap.size w w' ∧
  ((okD zs = false ∧ ∃ t v, e = .returned (.tuple #[.pointer none, .iface t v])) ∨ (okD zs = true ∧ ∃ p, e = .returned (.tuple #[.pointer (some ⟨p, 0, none⟩), .nilIface]) ∧ w.heap.size ≤ p ∧ DictAt w.heap.size w' p zs))
set_option maxHeartbeats 400000 in
theorem fault_any (c k : Int) (w : World) (hc : (c == 0) = false) : Calls Tryz.prog 105 #[.int .i64 c, .int .i64 k] w fun e w' => e = .returned (.iface 152 (.agg #[.int .i64 c, .int .i64 k])) ∧ w' = w := by
  go_enter Tryz.func105, Tryz.ntmps105
  go_wp2_with fail
  go_ret
  exact ⟨rfl, rfl⟩
theorem heap_set {W : World} {p : Nat} {u : Value} {t : TypeId} (h : W.heap[p]? = some (.cells #[u] t (0, 0))) (u' : Value) : (W.setCell ⟨p, 0, none⟩ u').heap[p]? = some (.cells #[u'] t (0, 0)) := by
  simp only [World.setCell, Array.getElem?_modify, if_true, h]
  rfl
theorem own_set {W : World} {base : Nat} {e t : TypeId} {size n : Nat} {v : Value} {xs : List Value} {p : Nat} {u : Value} (h : W.ownsRow base e size v n xs) (hp : W.heap[p]? = some (.cells #[u] t (0, 0))) (hne : e ≠ t) (u' : Value) : (W.setCell ⟨p, 0, none⟩ u').ownsRow base e size v n xs := by
  refine ⟨h.1, ?_⟩
  rcases h.2 with h1 | ⟨g, cap, cur, h1, h2, h3, h4⟩
  · exact .inl h1
  · refine .inr ⟨g, cap, cur, h1, h2, ?_, h4⟩
    rw [Below.heap_setCell _ _ _ _ ?_]; exact h3
    rintro rfl
    rw [h3] at hp
    injection hp with hp
    injection hp with _ ht
    exact hne ht
/-- What holds throughout the last statement of a round. -/
def dnG (B p n0 : Nat) (w : World) (W : World) : Prop := Below B w W ∧ n0 ≤ W.heap.size ∧ ∃ u, W.heap[p]? = some (.cells #[u] 139 (0, 0)) ∧ B ≤ p
/-- What an operation of it wants of the world until it has run. -/
def dnU (B p k : Nat) (v0 : Value) (xs : List Value) (i : Nat) (W : World) : Prop := match i with
  | 4 => W.heap[p]? = some (.cells #[v0] 139 (0, 0))
  | 8 => W.ownsRow B 9 1 v0 k xs
  | _ => True
/-- What an operation of it does to the world. -/
def dnR (p : Nat) (v0 : Value) (i : Nat) (W W' : World) : Prop := match i with
  | 8 => W.grownBy W' v0.ownBlock
  | 11 => (∃ u, W.heap[p]? = some (.cells #[u] 139 (0, 0))) ∧ ∃ u, W' = W.setCell ⟨p, 0, none⟩ u
  | _ => Below W.heap.size W W'
/-- What its operations yield. -/
def dnV (B p k : Nat) (v0 : Value) (xs : List Value) (s : ByteArray) (n0 : Nat) (i : Nat) (pv v : Value) (W : World) : Prop := match i with
  | 0 => v = .pointer (some ⟨p, 0, none⟩)
  | 1 => v = .pointer (some ⟨p, 0, none⟩)
  | 2 => v = .pointer (some ⟨p, 0, none⟩)
  | 3 => v = .pointer (some ⟨p, 0, none⟩)
  | 4 => v = v0
  | 5 => v = .string s
  | 6 => v = .string s
  | 7 => ∃ b, v = .slice (some ⟨b, 0, none⟩) 1 1 ∧ n0 ≤ b ∧ W.heap[b]? = some (.cells #[.string s] 9 (0, 0))
  | 8 => W.ownsRow B 9 1 v (k + 1) (xs ++ [.string s])
  | 9 => v = .pointer (some ⟨p, 0, none⟩)
  | 10 => v = .pointer (some ⟨p, 0, none⟩)
  | 11 => ∃ u, W.heap[p]? = some (.cells #[u] 139 (0, 0)) ∧ W.ownsRow B 9 1 u (k + 1) (xs ++ [.string s])
  | _ => True

theorem total_take_le (zs : List ByteArray) (k : Nat) : total (zs.take k) ≤ total zs := by
  have h : total zs = total (zs.take k) + total (zs.drop k) := by
    unfold total
    rw [← List.sum_append, ← List.map_append, List.take_append_drop]
  omega
theorem dnU_start {B p k : Nat} {v0 : Value} {xs : List Value} {w : World} (h1 : w.heap[p]? = some (.cells #[v0] 139 (0, 0))) (h2 : w.ownsRow B 9 1 v0 k xs) (i : Nat) : dnU B p k v0 xs i { w with drawn := w.drawn + 1 } := by
  unfold dnU
  split
  · exact h1
  · exact h2
  · trivial
theorem dnG_stay {B p n0 : Nat} {v0 : Value} {w : World} (hge : ∀ g, v0.ownBlock = some g → B ≤ g) (hne : v0.ownBlock ≠ some p) {i : Nat} {W W' : World} (hn0 : B ≤ n0) (h : dnG B p n0 w W) (k : dnR p v0 i W W') : dnG B p n0 w W' := by
  obtain ⟨h1, h2, u, h3, h4⟩ := h
  unfold dnR at k
  split at k
  · exact ⟨h1.grown k (by omega) hge, Nat.le_trans h2 k.size, u, (k.block p (heap_lt h3) (fun e => hne e.symm)).trans h3, h4⟩
  · obtain ⟨_, u', rfl⟩ := k
    exact ⟨h1.setCell h4 _, by simpa [World.setCell] using h2, u', heap_set h3 _, h4⟩
  · exact ⟨h1.trans (k.mono (by omega)), Nat.le_trans h2 k.size, u, heap_below k h3, h4⟩
theorem dnU_stay {B p k : Nat} {v0 : Value} {xs : List Value} {j i : Nat} {W W' : World} (h2 : ¬ (j = 4 ∧ (i = 8 ∨ i = 11)) ∧ ¬ (j = 8 ∧ (i = 8 ∨ i = 11))) (h3 : dnU B p k v0 xs j W) (h4 : dnR p v0 i W W') : dnU B p k v0 xs j W' := by
  unfold dnR at h4
  unfold dnU at h3 ⊢
  split at h3
  · split at h4
    · exact absurd ⟨rfl, .inl rfl⟩ h2.1
    · exact absurd ⟨rfl, .inr rfl⟩ h2.1
    · exact heap_below h4 h3
  · split at h4
    · exact absurd ⟨rfl, .inl rfl⟩ h2.2
    · exact absurd ⟨rfl, .inr rfl⟩ h2.2
    · exact own_below h3 h4
  · trivial
theorem dnV_stay {B p k : Nat} {v0 : Value} {xs : List Value} {s : ByteArray} {n0 : Nat} (hlt : ∀ g, v0.ownBlock = some g → g < n0) (hp : p < n0) {j i : Nat} {q v : Value} {W W' : World} (h2 : ¬ (j = 8 ∧ i = 8) ∧ ¬ (j = 11 ∧ (i = 8 ∨ i = 11))) (h3 : dnV B p k v0 xs s n0 j q v W) (h4 : dnR p v0 i W W') : dnV B p k v0 xs s n0 j q v W' := by
  unfold dnV at h3 ⊢
  split at h3
  case h_8 =>
    obtain ⟨b, e, hb, hc⟩ := h3
    refine ⟨b, e, hb, ?_⟩
    unfold dnR at h4
    split at h4
    · exact (h4.block b (heap_lt hc) (fun e => by have := hlt b e.symm; omega)).trans hc
    · obtain ⟨_, u', rfl⟩ := h4
      rw [Below.heap_setCell _ _ _ _ (by show b ≠ p; omega)]; exact hc
    · exact heap_below h4 hc
  case h_9 =>
    unfold dnR at h4
    split at h4
    · exact absurd ⟨rfl, rfl⟩ h2.1
    · obtain ⟨⟨u, hu⟩, u', rfl⟩ := h4
      exact own_set h3 hu (by decide) _
    · exact own_below h3 h4
  case h_12 =>
    unfold dnR at h4
    split at h4
    · exact absurd ⟨rfl, .inl rfl⟩ h2.2
    · exact absurd ⟨rfl, .inr rfl⟩ h2.2
    · obtain ⟨u, hu, ho⟩ := h3
      exact ⟨u, heap_below h4 hu, own_below ho h4⟩
  all_goals first | exact h3 | trivial
set_option maxHeartbeats 1000000 in
theorem new_many (A : Option Addr) (n cap : Nat) (zs : List ByteArray) (w : World) (hn : n = zs.length) (h1 : 100 < n) :
    Calls Tryz.prog 80 #[.slice A n cap] w fun e w' => NewPost w zs e w' := by
  have hL : decide ((n : Int) > 100) = true := by simp; omega
  have hok : Hid (okD zs = false) := by
    show okD zs = false
    unfold okD
    rw [decide_eq_false (by omega)]; rfl
  clear hn
  go_enter Tryz.func80, Tryz.ntmps80
  go_wp2_with fail
  refine (fault_any 10 100 _ rfl).mono ?_
  rintro e w1 ⟨rfl, rfl⟩
  go_wp2_with fail
  refine bodyPost_ret (v := .tuple #[.pointer none, .iface 152 (.agg #[.int .i64 10, .int .i64 100])]) ?_ rfl ⟨Below.refl _ _, .inl ⟨hok.out, _, _, rfl⟩⟩
  simp [results, Tryz.results80, go_sem]
set_option maxRecDepth 20000 in
set_option maxHeartbeats 2000000 in
theorem new_in (A : Option Addr) (n cap : Nat) (zs : List ByteArray) (w : World) (hn : n = zs.length) (h1 : n ≤ 100) (hat : StrsAt w A zs) (htot : total zs ≤ 2000) :
    Calls Tryz.prog 80 #[.slice A n cap] w fun e w' => NewPost w zs e w' := by
  obtain ⟨i0, hi, hz0, hz1, hz2⟩ := info_parts info9
  have hL : decide ((n : Int) > 100) = false := by simp; omega
  have hnh : Hid (n = zs.length) := hn
  clear hn
  go_enter Tryz.func80, Tryz.ntmps80
  go_wp2_with fail
  go_loopw [5, 17] (fun bs i wx => ∃ k : Nat, k ≤ n ∧ i = .int .i64 k ∧ bs = .int .i64 (total (zs.take k)) ∧ Hid (okUpto zs k = true) ∧ Below w.heap.size w wx ∧ ∃ v0, wx.heap[w.heap.size]? = some (.cells #[v0] 139 (0, 0)) ∧ wx.ownsRow w.heap.size 9 1 v0 k ((zs.take k).map Value.string)) (fun _ i _ => n - (intOf i).toNat)
  case atStart => exact ⟨0, Nat.zero_le _, rfl, rfl, rfl, balloc (Below.refl _ _) _, _, heap_new w _, World.ownsRow_nil _ _ _ _⟩
  case round =>
    obtain ⟨k, hk, rfl, rfl, hok, belr, v0, hpc, hown⟩ := hrel
    have hn := hnh.out
    by_cases hlt : k < n
    · obtain ⟨b, off, rfl, _, hc⟩ := hat (by omega)
      have hcell := pw_cell_below belr (hc k (by omega))
      have ht := total_succ (zs := zs) (k := k) (by omega)
      have htl := total_take_le zs (k + 1)
      have hgd : Hid (goodAt zs k = (decide (1 ≤ (zs.getD k ByteArray.empty).size) && (decide ((zs.getD k ByteArray.empty).size ≤ 40) && (decide (total (zs.take (k + 1)) ≤ 1000) && !Lib.containsS (zs.take k) (zs.getD k ByteArray.empty))))) := rfl
      have hbadk : goodAt zs k = false → okD zs = false := bad_at (by omega)
      have hoks : Hid (okUpto zs (k + 1) = (okUpto zs k && goodAt zs k)) := okUpto_succ zs k
      have hsucc0 : (zs.take (k + 1)).map Value.string = (zs.take k).map Value.string ++ [Value.string (zs.getD k ByteArray.empty)] := by
        have e : zs.getD k ByteArray.empty = zs[k]'(by omega) := by simp [List.getD_eq_getElem?_getD, show k < zs.length by omega]
        rw [List.take_succ_eq_append_getElem (by omega), List.map_append, e]; rfl
      have hsucc : Hid ((zs.take (k + 1)).map Value.string = (zs.take k).map Value.string ++ [Value.string (zs.getD k ByteArray.empty)]) := hsucc0
      have hkl : (zs.take k).length = k := by rw [List.length_take]; omega
      obtain ⟨V, cp, rfl, hsat⟩ := own_cells hown hkl
      have hkl2 : Hid (k = (zs.take k).length) := hkl.symm
      clear hsucc0 hkl
      generalize zs.getD k ByteArray.empty = s at *
      have hwT : IntKind.i64.wrap ((total (zs.take k) : Int) + s.size) = (total (zs.take k) : Int) + s.size := by rw [IntKind.wrap_i64]; omega
      have hT : Hid (total (zs.take (k + 1)) = total (zs.take k) + s.size) := ht
      have hT1 : total (zs.take k) + s.size ≤ 2000 := by omega
      have hnk : Hid (k < n) := hlt
      clear ht htl hc hat hn hnh htot
      rcases Nat.eq_zero_or_pos s.size with h0 | h0
      · have hbad : Hid (okD zs = false) := hbadk (by rw [hgd.out, decide_eq_false (by omega)]; rfl)
        have hs0 : s = ⟨#[]⟩ := ByteArray.ext (Array.eq_empty_of_size_eq_zero h0)
        subst hs0
        clear hbadk hgd hoks hsucc hkl2 hsat hown hpc
        go_wp2_with fail
        refine (fault_any 5 (k : Int) _ rfl).mono ?_
        rintro e w1 ⟨rfl, rfl⟩
        go_wp2_with fail
        refine bodyPost_ret (v := .tuple #[.pointer none, .iface 152 (.agg #[.int .i64 5, .int .i64 k])]) ?_ rfl ⟨belr, .inl ⟨hbad.out, _, _, rfl⟩⟩
        simp [results, Tryz.results80, go_sem]
      have hne := nonempty_of h0
      rcases Nat.lt_or_ge 40 s.size with h40 | h40
      · have hbad : Hid (okD zs = false) := hbadk (by rw [hgd.out, decide_eq_false (show ¬ s.size ≤ 40 by omega)]; simp)
        have hd : decide ((s.size : Int) > 40) = true := by simp; omega
        clear hbadk hgd hoks hsucc hkl2 hsat hown hpc
        go_wp2_with fail
        refine (fault_any 10 (k : Int) _ rfl).mono ?_
        rintro e w1 ⟨rfl, rfl⟩
        go_wp2_with fail
        refine bodyPost_ret (v := .tuple #[.pointer none, .iface 152 (.agg #[.int .i64 10, .int .i64 k])]) ?_ rfl ⟨belr, .inl ⟨hbad.out, _, _, rfl⟩⟩
        simp [results, Tryz.results80, go_sem]
      have hd : decide ((s.size : Int) > 40) = false := by simp; omega
      rcases Nat.lt_or_ge 1000 (total (zs.take k) + s.size) with h10 | h10
      · have hbad : Hid (okD zs = false) := hbadk (by rw [hgd.out, hT.out, decide_eq_false (show ¬ total (zs.take k) + s.size ≤ 1000 by omega)]; simp)
        have hd2 : decide ((total (zs.take k) : Int) + s.size > 1000) = true := by simp; omega
        clear hbadk hgd hoks hsucc hkl2 hsat hown hpc
        go_wp2_with fail
        refine (fault_any 10 (k : Int) _ rfl).mono ?_
        rintro e w1 ⟨rfl, rfl⟩
        go_wp2_with fail
        refine bodyPost_ret (v := .tuple #[.pointer none, .iface 152 (.agg #[.int .i64 10, .int .i64 k])]) ?_ rfl ⟨belr, .inl ⟨hbad.out, _, _, rfl⟩⟩
        simp [results, Tryz.results80, go_sem]
      have hd2 : decide ((total (zs.take k) : Int) + s.size > 1000) = false := by simp; omega
      have hcl0 : wr.cell? ⟨w.heap.size, 0, none⟩ = some (.slice V k cp) := cell_of hpc rfl
      go_wp2_with fail
      refine (contains_any V k cp (zs.take k) s _ hkl2.out (by omega) hsat).mono ?_
      rintro e w1 ⟨rfl, rfl⟩
      cases hct : Lib.containsS (zs.take k) s with
      | true =>
        have hbad : Hid (okD zs = false) := hbadk (by rw [hgd.out, hct]; simp)
        clear hbadk hgd hoks hsucc hkl2 hsat hown hpc hcl0
        go_wp2_with fail
        refine (fault_any 5 (k : Int) _ rfl).mono ?_
        rintro e w1 ⟨rfl, rfl⟩
        go_wp2_with fail
        refine bodyPost_ret (v := .tuple #[.pointer none, .iface 152 (.agg #[.int .i64 5, .int .i64 k])]) ?_ rfl ⟨belr, .inl ⟨hbad.out, _, _, rfl⟩⟩
        simp [results, Tryz.results80, go_sem]
      | false =>
      have hgood : goodAt zs k = true := by rw [hgd.out, hct, hT.out, decide_eq_true (show 1 ≤ s.size by omega), decide_eq_true h40, decide_eq_true h10]; rfl
      have hoks2 : Hid (okUpto zs (k + 1) = true) := by
        show okUpto zs (k + 1) = true
        rw [hoks.out, hok.out, hgood]; rfl
      clear hbadk hgd hoks hkl2 hsat hct hgood hcl0
      go_wp2_with fail
      refine RegU.wp_region_lists (dnG w.heap.size w.heap.size w1.heap.size w) (dnU w.heap.size w.heap.size k (.slice V k cp) ((zs.take k).map Value.string)) (dnR w.heap.size (.slice V k cp)) (fun i => i) (dnV w.heap.size w.heap.size k (.slice V k cp) ((zs.take k).map Value.string) s w1.heap.size)
        [some 49, some 50, some 51, some 52, some 53, some 54, some 55, some 56, some 57, some 58, some 59, none]
        [[], [], [1], [2], [3], [], [5], [6], [4, 7, 6], [0, 0, 1, 2, 3, 4, 5, 6, 7, 8], [9, 0, 1, 2, 3, 4, 5, 6, 7, 8], [10, 8, 8, 0, 1, 2, 3, 4, 5, 6, 7, 8]]
        (by kernel_rfl) (by kernel_rfl) (by kernel_rfl) (fun i => .inl rfl) ?_ ?_ ?_ ?_ ?_ ?_ ?_
      · exact ⟨below_drew belr, Nat.le_refl _, _, hpc, Nat.le_refl _⟩
      · intro i; exact dnU_start hpc hown i
      · intro i W W' h k2; exact dnG_stay (own_ge hown) (own_ne hown hpc (by decide)) belr.size h k2
      · intro j i W W' h1 h2 h3 h4
        refine dnU_stay ⟨?_, ?_⟩ h3 h4 <;> rintro ⟨rfl, rfl | rfl⟩ <;> first | exact h1 rfl | exact h2 (by decide)
      · intro j i q v W W' h1 h2 h3 h4
        refine dnV_stay (own_lt hown) (heap_lt hpc) ⟨?_, ?_⟩ h3 h4
        · rintro ⟨rfl, rfl⟩; exact h1 rfl
        · rintro ⟨rfl, rfl | rfl⟩ <;> first | exact h1 rfl | exact h2 (by decide)
      · refine ⟨?_, ?_, ?_, ?_, ?_, ?_, ?_, ?_, ?_, ?_, ?_, ?_, trivial⟩
        · intro vals W K hG hU hV hK
          simp only [if_true] at hK
          simp only [Reg.putS, List.foldl, List.headD, List.tail, List.getD_cons_zero, List.getD_cons_succ, Act.put, List.setIfInBounds_toArray, List.set_cons_zero, List.set_cons_succ] at hK ⊢
          go_simp
          first
            | exact hK _ _ (Below.refl _ _) rfl
            | (rw [if_pos (by omega)]; exact hK _ _ (Below.refl _ _) rfl)
            | (rw [dif_pos (by omega)]; exact hK _ _ (Below.refl _ _) rfl)
            | (rw [if_neg (by omega)]; exact hK _ _ (Below.refl _ _) rfl)
        · intro vals W K hG hU hV hK
          simp only [if_true] at hK
          simp only [Reg.putS, List.foldl, List.headD, List.tail, List.getD_cons_zero, List.getD_cons_succ, Act.put, List.setIfInBounds_toArray, List.set_cons_zero, List.set_cons_succ] at hK ⊢
          go_simp
          first
            | exact hK _ _ (Below.refl _ _) rfl
            | (rw [if_pos (by omega)]; exact hK _ _ (Below.refl _ _) rfl)
            | (rw [dif_pos (by omega)]; exact hK _ _ (Below.refl _ _) rfl)
            | (rw [if_neg (by omega)]; exact hK _ _ (Below.refl _ _) rfl)
        · intro vals W K hG hU hV hK
          simp only [if_true] at hK
          have d1 := hV 1 (by simp)
          simp only [dnV] at d1
          simp only [Reg.putS, List.foldl, List.headD, List.tail, List.getD_cons_zero, List.getD_cons_succ, Act.put, List.setIfInBounds_toArray, List.set_cons_zero, List.set_cons_succ, d1] at hK ⊢
          go_simp
          first
            | exact hK _ _ (Below.refl _ _) rfl
            | (rw [if_pos (by omega)]; exact hK _ _ (Below.refl _ _) rfl)
            | (rw [dif_pos (by omega)]; exact hK _ _ (Below.refl _ _) rfl)
            | (rw [if_neg (by omega)]; exact hK _ _ (Below.refl _ _) rfl)
        · intro vals W K hG hU hV hK
          simp only [if_true] at hK
          have d2 := hV 2 (by simp)
          simp only [dnV] at d2
          simp only [Reg.putS, List.foldl, List.headD, List.tail, List.getD_cons_zero, List.getD_cons_succ, Act.put, List.setIfInBounds_toArray, List.set_cons_zero, List.set_cons_succ, d2] at hK ⊢
          go_simp
          first
            | exact hK _ _ (Below.refl _ _) rfl
            | (rw [if_pos (by omega)]; exact hK _ _ (Below.refl _ _) rfl)
            | (rw [dif_pos (by omega)]; exact hK _ _ (Below.refl _ _) rfl)
            | (rw [if_neg (by omega)]; exact hK _ _ (Below.refl _ _) rfl)
        · intro vals W K hG hU hV hK
          simp only [if_true] at hK
          have d3 := hV 3 (by simp)
          simp only [dnV] at d3
          simp only [Reg.putS, List.foldl, List.headD, List.tail, List.getD_cons_zero, List.getD_cons_succ, Act.put, List.setIfInBounds_toArray, List.set_cons_zero, List.set_cons_succ, d3] at hK ⊢
          have hcl : W.cell? ⟨w.heap.size, 0, none⟩ = some (.slice V k cp) := cell_of hU rfl
          go_simp
          first
            | exact hK _ _ (Below.refl _ _) rfl
            | (rw [if_pos (by omega)]; exact hK _ _ (Below.refl _ _) rfl)
            | (rw [dif_pos (by omega)]; exact hK _ _ (Below.refl _ _) rfl)
            | (rw [if_neg (by omega)]; exact hK _ _ (Below.refl _ _) rfl)
        · intro vals W K hG hU hV hK
          simp only [if_true] at hK
          simp only [Reg.putS, List.foldl, List.headD, List.tail, List.getD_cons_zero, List.getD_cons_succ, Act.put, List.setIfInBounds_toArray, List.set_cons_zero, List.set_cons_succ] at hK ⊢
          go_simp
          first
            | exact hK _ _ (Below.refl _ _) rfl
            | (rw [if_pos (by omega)]; exact hK _ _ (Below.refl _ _) rfl)
            | (rw [dif_pos (by omega)]; exact hK _ _ (Below.refl _ _) rfl)
            | (rw [if_neg (by omega)]; exact hK _ _ (Below.refl _ _) rfl)
        · intro vals W K hG hU hV hK
          simp only [if_true] at hK
          have d5 := hV 5 (by simp)
          simp only [dnV] at d5
          simp only [Reg.putS, List.foldl, List.headD, List.tail, List.getD_cons_zero, List.getD_cons_succ, Act.put, List.setIfInBounds_toArray, List.set_cons_zero, List.set_cons_succ, d5] at hK ⊢
          go_simp
          refine (clone_any s _ (by omega)).mono ?_
          rintro e w2 ⟨rfl, hb⟩
          exact hK _ _ hb rfl
        · intro vals W K hG hU hV hK
          simp only [if_true] at hK
          have d6 := hV 6 (by simp)
          simp only [dnV] at d6
          simp only [Reg.putS, List.foldl, List.headD, List.tail, List.getD_cons_zero, List.getD_cons_succ, Act.put, List.setIfInBounds_toArray, List.set_cons_zero, List.set_cons_succ, d6] at hK ⊢
          go_simp
          exact hK _ _ (balloc (Below.refl _ _) _) ⟨_, rfl, hG.2.1, heap_new W _⟩
        · refine Step.step_of ?g ?_
          case g => rfl
          intro A vals W K hA hG hU hV hK
          simp only [if_true] at hK
          have d4 := hV 4 (by simp)
          simp only [dnV] at d4
          have d7 := hV 7 (by simp)
          simp only [dnV] at d7
          obtain ⟨b7, d7, hge7, hcell7⟩ := d7
          refine wp_append_own _ (.tmp 53) (.tmp 56) 22 rfl w.heap.size 9 i0 (.string ⟨#[]⟩) 1 16 Tryz.underlying22 hi hz0 hz1 hz2 rfl (by decide) (.slice V k cp) k ((zs.take k).map Value.string) ((Step.putE hA rfl (Nat.lt_of_sub_eq_succ rfl)).trans d4) hU ⟨b7, 0, none⟩ 1 1 [.string s] ((Step.putE hA rfl (Nat.lt_of_sub_eq_succ rfl)).trans d7) rfl ?c1 ?c2 ?c3 ?c4 ?c5 ?c6
          case c1 => intro j u hj; match j, hj with | 0, hj => simp at hj; subst hj; simpa [Addr.add] using cell_of hcell7 rfl | j + 1, hj => simp at hj
          case c2 => intro u hu; simp at hu; subst hu; rfl
          case c3 => unfold maxLen; omega
          case c4 => omega
          case c5 => exact Nat.le_trans belr.size hG.2.1
          case c6 => intro v' w' ho hgr _; exact hK _ _ hgr ho
        · intro vals W K hG hU hV hK
          simp only [if_true] at hK
          have d0 := hV 0 (by simp)
          simp only [dnV] at d0
          have d1 := hV 1 (by simp)
          simp only [dnV] at d1
          have d2 := hV 2 (by simp)
          simp only [dnV] at d2
          have d3 := hV 3 (by simp)
          simp only [dnV] at d3
          have d4 := hV 4 (by simp)
          simp only [dnV] at d4
          have d5 := hV 5 (by simp)
          simp only [dnV] at d5
          have d6 := hV 6 (by simp)
          simp only [dnV] at d6
          simp only [Reg.putS, List.foldl, List.headD, List.tail, List.getD_cons_zero, List.getD_cons_succ, Act.put, List.setIfInBounds_toArray, List.set_cons_zero, List.set_cons_succ, d0, d1, d2, d3, d4, d5, d6] at hK ⊢
          go_simp
          first
            | exact hK _ _ (Below.refl _ _) rfl
            | (rw [if_pos (by omega)]; exact hK _ _ (Below.refl _ _) rfl)
            | (rw [dif_pos (by omega)]; exact hK _ _ (Below.refl _ _) rfl)
            | (rw [if_neg (by omega)]; exact hK _ _ (Below.refl _ _) rfl)
        · intro vals W K hG hU hV hK
          simp only [if_true] at hK
          have d0 := hV 0 (by simp)
          simp only [dnV] at d0
          have d1 := hV 1 (by simp)
          simp only [dnV] at d1
          have d2 := hV 2 (by simp)
          simp only [dnV] at d2
          have d3 := hV 3 (by simp)
          simp only [dnV] at d3
          have d4 := hV 4 (by simp)
          simp only [dnV] at d4
          have d5 := hV 5 (by simp)
          simp only [dnV] at d5
          have d6 := hV 6 (by simp)
          simp only [dnV] at d6
          have d9 := hV 9 (by simp)
          simp only [dnV] at d9
          simp only [Reg.putS, List.foldl, List.headD, List.tail, List.getD_cons_zero, List.getD_cons_succ, Act.put, List.setIfInBounds_toArray, List.set_cons_zero, List.set_cons_succ, d0, d1, d2, d3, d4, d5, d6, d9] at hK ⊢
          go_simp
          first
            | exact hK _ _ (Below.refl _ _) rfl
            | (rw [if_pos (by omega)]; exact hK _ _ (Below.refl _ _) rfl)
            | (rw [dif_pos (by omega)]; exact hK _ _ (Below.refl _ _) rfl)
            | (rw [if_neg (by omega)]; exact hK _ _ (Below.refl _ _) rfl)
        · refine Step.step_of ?g ?_
          case g => rfl
          intro A vals W K hA hG hU hV hK
          simp only [if_true] at hK
          have d8 := hV 8 (by simp)
          simp only [dnV] at d8
          obtain d8 := d8
          have d10 := hV 10 (by simp)
          simp only [dnV] at d10
          obtain ⟨u, hu, hpo⟩ := hG.2.2
          obtain ⟨V8, c8, hv8, _⟩ := own_form d8
          refine Step.step_store1 Tryz.sizeOf22 ((Step.putA hA rfl (Nat.lt_of_sub_eq_succ rfl)).trans d10) (((Step.putA hA rfl (Nat.lt_of_sub_eq_succ rfl))).trans hv8) hu ?_
          rw [← hv8]
          exact hK undef _ ⟨⟨u, hu⟩, _, rfl⟩ ⟨_, heap_set hu _, own_set d8 hu (by decide) _⟩
      · intro vals W hG hV
        rw [show List.range (List.length [some 49, some 50, some 51, some 52, some 53, some 54, some 55, some 56, some 57, some 58, some 59, none]) = [0, 1, 2, 3, 4, 5, 6, 7, 8, 9, 10, 11] from rfl]
        have d0 := hV 0 (by decide)
        simp only [dnV] at d0
        have d1 := hV 1 (by decide)
        simp only [dnV] at d1
        have d2 := hV 2 (by decide)
        simp only [dnV] at d2
        have d3 := hV 3 (by decide)
        simp only [dnV] at d3
        have d4 := hV 4 (by decide)
        simp only [dnV] at d4
        have d5 := hV 5 (by decide)
        simp only [dnV] at d5
        have d6 := hV 6 (by decide)
        simp only [dnV] at d6
        have d7 := hV 7 (by decide)
        simp only [dnV] at d7
        obtain ⟨b7, d7, hge7, hcell7⟩ := d7
        have d8 := hV 8 (by decide)
        simp only [dnV] at d8
        obtain d8 := d8
        have d9 := hV 9 (by decide)
        simp only [dnV] at d9
        have d10 := hV 10 (by decide)
        simp only [dnV] at d10
        have d11 := hV 11 (by decide)
        simp only [dnV] at d11
        obtain ⟨u11, d11, hown11⟩ := d11
        clear hV
        simp only [Reg.putS, List.foldl, List.getD_cons_zero, List.getD_cons_succ, Act.put, List.setIfInBounds_toArray, List.set_cons_zero, List.set_cons_succ, d0, d1, d2, d3, d4, d5, d6, d7, d9, d10]
        clear d0 d1 d2 d3 d4 d5 d6 d7 d9 d10
        obtain ⟨belW, _, _⟩ := hG
        rw [← hsucc.out] at hown11
        clear hpc hown hcell
        go_wp2_with fail
        go_roundw
        case rel => exact ⟨k + 1, by omega, by go_num, by rw [hT.out]; exact int_eq (by omega), hoks2, belW, u11, d11, hown11⟩
        case measure => simp [intOf]; omega
    · have hkn : k = n := by omega
      subst hkn
      have hok2 : Hid (okD zs = true) := by
        show okD zs = true
        unfold okD
        rw [decide_eq_true (by omega), ← hn]; exact hok.out
      have hd : DictAt w.heap.size wr w.heap.size zs := by
        refine ⟨v0, hpc, ?_⟩
        rw [List.take_of_length_le (by omega)] at hown
        rw [← hn]; exact hown
      clear hn hnh hok hat hpc hown htot
      go_wp2_with fail
      refine bodyPost_ret (v := .tuple #[.pointer (some ⟨w.heap.size, 0, none⟩), .nilIface]) ?_ rfl ⟨belr, .inr ⟨hok2.out, _, rfl, Nat.le_refl _, hd⟩⟩
      simp [results, Tryz.results80, go_sem]
end Go.Proofs.YtdeeeechdlcdbaaGreat.DiC
/- Make and All. -/
set_option linter.unusedSimpArgs false
set_option linter.unusedVariables false
namespace Go.Proofs.YtdeeeechdlcdbaaGreat.DiD
open Go Go.RowKit Go.Proofs.YtdeeeechdlcdbaaGreat.Base Go.Proofs.YtdeeeechdlcdbaaGreat.DiA Go.Proofs.YtdeeeechdlcdbaaGreat.DiB Go.Proofs.YtdeeeechdlcdbaaGreat.DiC
theorem new_any (A : Option Addr) (n cap : Nat) (zs : List ByteArray) (w : World) (hn : n = zs.length) (hat : StrsAt w A zs) (htot : total zs ≤ 2000) :
    Calls Tryz.prog 80 #[.slice A n cap] w fun e w' => NewPost w zs e w' := by
  rcases Nat.lt_or_ge 100 n with h | h
  · exact new_many A n cap zs w hn h
  · exact new_in A n cap zs w hn h hat htot
/-- Behind Make. -/
def MakePost (w : World) (zs : List ByteArray) (e : Ending) (w' : World) : Prop := Below w.heap.size w w' ∧
  ((okD zs = false ∧ e = .returned (.pointer none)) ∨ (okD zs = true ∧ ∃ p, e = .returned (.pointer (some ⟨p, 0, none⟩)) ∧ w.heap.size ≤ p ∧ DictAt w.heap.size w' p zs))
set_option maxHeartbeats 400000 in
theorem make_any (A : Option Addr) (n cap : Nat) (zs : List ByteArray) (w : World) (hn : n = zs.length) (hat : StrsAt w A zs) (htot : total zs ≤ 2000) :
    Calls Tryz.prog 42 #[.slice A n cap] w fun e w' => MakePost w zs e w' := by
  have hnew := new_any A n cap zs w hn hat htot
  clear hn
  go_enter Tryz.func42, Tryz.ntmps42
  go_wp2_with fail
  refine hnew.mono ?_
  rintro e w1 ⟨hb, ⟨hok, t, v, rfl⟩ | ⟨hok, p, rfl, hp, hd⟩⟩
  · have hok2 : Hid (okD zs = false) := hok
    clear hok hnew hat
    go_wp2_with fail
    refine bodyPost_ret (v := .pointer none) ?_ rfl ⟨hb, .inl ⟨hok2.out, rfl⟩⟩
    simp [results, Tryz.results42, go_sem]
  · have hok2 : Hid (okD zs = true) := hok
    clear hok hnew hat
    go_wp2_with fail
    refine bodyPost_ret (v := .pointer (some ⟨p, 0, none⟩)) ?_ rfl ⟨hb, .inr ⟨hok2.out, p, rfl, hp, hd⟩⟩
    simp [results, Tryz.results42, go_sem]
/-- Behind All. -/
def AllPost (w : World) (zs : List ByteArray) (e : Ending) (w' : World) : Prop := Below w.heap.size w w' ∧ ∃ V cp, e = .returned (.slice V zs.length cp) ∧ w'.ownsRow w.heap.size 9 1 (.slice V zs.length cp) zs.length (zs.map Value.string)
set_option maxHeartbeats 400000 in
theorem all_any (B p : Nat) (zs : List ByteArray) (w : World) (hd : DictAt B w p zs) (hbig : zs.length ≤ 1000) :
    Calls Tryz.prog 86 #[.pointer (some ⟨p, 0, none⟩)] w fun e w' => AllPost w zs e w' := by
  obtain ⟨v, hp, hown⟩ := hd
  obtain ⟨V, cp, rfl, hs⟩ := own_cells hown rfl
  obtain ⟨n, hn⟩ : ∃ n, n = zs.length := ⟨_, rfl⟩
  have hcl : w.cell? ⟨p, 0, none⟩ = some (.slice V n cp) := by rw [hn]; exact cell_of hp rfl
  have hclone : Calls Tryz.prog 110 #[.slice V n cp] w fun e w' => AllPost w zs e w' := by
    rcases V with _ | ad
    · refine (Tryz.slices_Clone_string_nil n cp w).mono ?_
      rintro e w' ⟨rfl, rfl⟩
      have h0 : zs.length = 0 := by
        rcases Nat.eq_zero_or_pos zs.length with h | h
        · exact h
        · obtain ⟨b, off, h, _⟩ := hs h; cases h
      have hz : zs = [] := List.eq_nil_of_length_eq_zero h0
      subst hz
      exact ⟨Below.refl _ _, none, 0, rfl, World.ownsRow_nil _ _ _ _⟩
    · rcases Nat.eq_zero_or_pos zs.length with h | h
      · have hn0 : n = 0 := by omega
        subst hn0
        refine (Tryz.slices_Clone_string_zero ad cp w).mono ?_
        rintro e w' ⟨v', rfl, ho, _, hb⟩
        obtain ⟨V', cp', rfl, _⟩ := own_form ho
        have hz : zs = [] := List.eq_nil_of_length_eq_zero h
        subst hz
        exact ⟨hb, V', cp', rfl, ho⟩
      · obtain ⟨b, off, hA, _, hc⟩ := hs h
        obtain rfl := Option.some.inj hA
        refine (Tryz.slices_Clone_string b off n cp zs w (by omega) (by omega) hc).mono ?_
        rintro e w' ⟨v', rfl, ho, _, hb⟩
        rw [List.take_of_length_le (by omega)] at ho
        obtain ⟨V', cp', rfl, hs'⟩ := own_cells ho (by omega)
        rw [hn] at ho
        exact ⟨hb, V', cp', by rw [hn], ho⟩
  clear hp hown hs
  have hnh : Hid (n = zs.length) := hn
  clear hn
  go_enter Tryz.func86, Tryz.ntmps86
  go_wp2_with fail
  refine hclone.mono ?_
  rintro e w1 ⟨hb, V', cp', rfl, hs'⟩
  clear hclone
  go_wp2_with fail
  refine bodyPost_ret (v := .slice V' zs.length cp') ?_ rfl ⟨hb, V', cp', rfl, hs'⟩
  simp [results, Tryz.results86, go_sem]
end Go.Proofs.YtdeeeechdlcdbaaGreat.DiD
