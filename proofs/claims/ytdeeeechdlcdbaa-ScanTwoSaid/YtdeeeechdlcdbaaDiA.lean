/- Lists of phrases in memory; Few. -/
import Derived.Test.YtdeeeechdlcdbaaChecked
import Derived.Test.YtdeeeechdlcdbaaArgs
import Derived.Test.YtdeeeechdlcdbaaBase
set_option linter.unusedSimpArgs false
set_option linter.unusedVariables false
namespace Go.Proofs.Ytdeeeechdlcdbaa.DiA
open Go Go.RowKit Go.Proofs.Ytdeeeechdlcdbaa.Base

/-- A slice of strings, as a list. -/
def StrsAt (w : World) (A : Option Addr) (zs : List ByteArray) : Prop := 0 < zs.length → ∃ b off, A = some ⟨b, off, none⟩ ∧ b < w.heap.size ∧ ∀ j, j < zs.length → w.cell? ⟨b, off + j, none⟩ = some (.string (zs.getD j ByteArray.empty))
theorem cell_lt {w : World} {a : Addr} {v : Value} (h : w.cell? a = some v) : a.block < w.heap.size := by
  unfold World.cell? at h
  rcases Nat.lt_or_ge a.block w.heap.size with h1 | h1
  · exact h1
  · rw [Array.getElem?_eq_none h1] at h; cases h
theorem strsAt_of {w : World} {A : Option Addr} {n cap : Nat} {zs : List ByteArray} (h : Args.StrsIn w A n cap zs) : StrsAt w A zs := by
  intro hn
  obtain ⟨ad, hA, hc⟩ := h.at_ (by rw [h.len] at hn; exact hn)
  have h0 := hc 0 (by rw [h.len] at hn; exact hn)
  have hs : ad.spot = none := by
    unfold World.cell? Addr.add at h0
    rw [if_pos rfl] at h0
    cases hsp : ad.spot with
    | none => rfl
    | some x => rw [hsp] at h0; split at h0 <;> simp at h0
  have hlt := cell_lt h0
  refine ⟨ad.block, ad.off, ?_, by simpa [Addr.add] using hlt, fun j hj => ?_⟩
  · rw [hA]; obtain ⟨x, y, z⟩ := ad; simp at hs; subst hs; rfl
  · have := hc j (by rw [h.len] at hj; exact hj)
    rw [← this]
    unfold Addr.add
    by_cases h : j = 0
    · subst h; rw [if_pos rfl]; obtain ⟨x, y, z⟩ := ad; simp at hs; subst hs; rfl
    · rw [if_neg h]
theorem StrsAt.below {w w' : World} {A : Option Addr} {zs : List ByteArray} (h : StrsAt w A zs) (hb : Below w.heap.size w w') : StrsAt w' A zs := by
  intro hn
  obtain ⟨b, off, hA, hlt, hc⟩ := h hn
  exact ⟨b, off, hA, Nat.lt_of_lt_of_le hlt hb.size, fun j hj => pw_cell_below hb (hc j hj)⟩
/-- How many bytes the strings have together. -/
def total (zs : List ByteArray) : Nat := (zs.map (·.size)).sum
theorem total_succ {zs : List ByteArray} {k : Nat} (hk : k < zs.length) : total (zs.take (k + 1)) = total (zs.take k) + (zs.getD k ByteArray.empty).size := by
  have e : zs.getD k ByteArray.empty = zs[k] := by simp [List.getD_eq_getElem?_getD, hk]
  unfold total
  rw [e, List.take_succ_eq_append_getElem hk, List.map_append, List.sum_append]
  simp
def fewB (zs : List ByteArray) : Bool := decide (zs.length ≤ 110) && decide (total zs ≤ 1300)

set_option maxHeartbeats 1000000 in
theorem few_any (A : Option Addr) (n cap : Nat) (zs : List ByteArray) (w : World) (hn : n = zs.length) (h : StrsAt w A zs) (hsz : ∀ x ∈ zs, x.size ≤ 140737488351232) (hbig : n ≤ 140737488351232) :
    Calls Try.prog 23 #[.slice A n cap] w fun e w' => e = .returned (.bool (fewB zs)) ∧ w' = w := by
  have hnh : Hid (n = zs.length) := hn
  clear hn
  go_enter Try.func23, Try.ntmps23
  go_wp2_with fail
  go_loop [3, 8] (fun v i => ∃ (k : Nat) (x : Int), k ≤ n ∧ i = .int .i64 k ∧ v = .int .i64 x ∧ Hid (k ≤ 110 → x = (total (zs.take k) : Int) ∧ (total (zs.take k) : Int) ≤ k * 140737488351232)) (fun _ i => n - (intOf i).toNat)
  case atStart => exact ⟨0, 0, Nat.zero_le _, rfl, rfl, fun _ => ⟨rfl, by simp [total]⟩⟩
  case round =>
    obtain ⟨k, x, hk, rfl, rfl, hx⟩ := hrel
    have hn := hnh.out
    by_cases hlt : k < n
    · obtain ⟨b, off, rfl, _, hc⟩ := h (by omega)
      have hcell := hc k (by omega)
      have hm : zs.getD k ByteArray.empty ∈ zs := by
        rw [List.getD_eq_getElem?_getD, List.getElem?_eq_getElem (by omega)]; exact List.getElem_mem _
      have hs := hsz _ hm
      have ht := total_succ (zs := zs) (k := k) (by omega)
      generalize zs.getD k ByteArray.empty = s at hcell hs ht
      clear hc h hsz hm
      have ht2 : Hid (total (zs.take (k + 1)) = total (zs.take k) + s.size) := ht
      clear ht
      clear hn
      go_wp2_with fail
      go_round
      case rel =>
        refine ⟨k + 1, _, by omega, by go_num, rfl, fun h110 => ?_⟩
        obtain ⟨hx1, hx2⟩ := hx.out (by omega)
        rw [ht2.out, hx1]
        refine ⟨?_, by omega⟩
        unfold wrap64
        omega
      case measure => simp [intOf]; omega
    · have hkn : k = n := by omega
      subst hkn
      have hx2 : Hid (k ≤ 110 → x = (total zs : Int)) := fun h1 => by
        have := (hx.out h1).1
        rw [List.take_of_length_le (by omega)] at this
        exact this
      have hf : Hid (fewB zs = (decide ((k : Int) ≤ 110) && decide (x ≤ 1300))) := by
        show fewB zs = (decide ((k : Int) ≤ 110) && decide (x ≤ 1300))
        unfold fewB
        rw [← hn]
        by_cases h1 : k ≤ 110
        · rw [hx2.out h1]
          congr 1
          · simp; omega
          · simp; omega
        · have h2 : ¬ ((k : Int) ≤ 110) := by omega
          rw [decide_eq_false h1, decide_eq_false h2]
          rfl
      clear hx hx2 hn h hsz hnh
      cases h1 : decide ((k : Int) ≤ 110) <;> cases h2 : decide (x ≤ 1300)
      all_goals
        go_wp2_with fail
        go_ret
        refine ⟨ret_bool ?_, rfl⟩
        rw [hf.out]
        simp [h1, h2]
end Go.Proofs.Ytdeeeechdlcdbaa.DiA
