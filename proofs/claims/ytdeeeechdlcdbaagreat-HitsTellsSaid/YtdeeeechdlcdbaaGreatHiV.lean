/- Rows read; a first call of hits. -/
import Derived.Test.YtdeeeechdlcdbaaGreatHiM
set_option linter.unusedVariables false
set_option linter.unusedSimpArgs false
namespace Go.Proofs.YtdeeeechdlcdbaaGreat.HiV
open Go Go.RowKit Go.Sort Go.Lib Go.Proofs Go.Proofs.YtdeeeechdlcdbaaGreat Go.Proofs.YtdeeeechdlcdbaaGreat.Base Go.Proofs.YtdeeeechdlcdbaaGreat.DiA Go.Proofs.YtdeeeechdlcdbaaGreat.DiB Go.Proofs.YtdeeeechdlcdbaaGreat.DiD Go.Proofs.YtdeeeechdlcdbaaGreat.LkM Go.Proofs.YtdeeeechdlcdbaaGreat.ScN Go.Proofs.YtdeeeechdlcdbaaGreat.LkS Go.Proofs.YtdeeeechdlcdbaaGreat.RwA Go.Proofs.YtdeeeechdlcdbaaGreat.HiP Go.Proofs.YtdeeeechdlcdbaaGreat.HiQ Go.Proofs.YtdeeeechdlcdbaaGreat.HiA Go.Proofs.YtdeeeechdlcdbaaGreat.HiW Go.Proofs.YtdeeeechdlcdbaaGreat.HiL Go.Proofs.YtdeeeechdlcdbaaGreat.HiM
theorem rws_row {B g : Nat} {w : World} {L : List (List Nat)} (h : Rws B g w L) {i : Nat} (hi : i < L.length) : ∃ V cp, w.cell? ⟨g, i, none⟩ = some (.slice V (L.getD i []).length cp) ∧ At w V (toI (L.getD i [])) := by
  obtain ⟨vs, hv⟩ := h
  have ho := hv.own i hi
  rw [toI_map] at ho
  obtain ⟨_, V, cp, hV, hA⟩ := row_at ho
  exact ⟨V, cp, by rw [← hV]; exact hv.cell hi, hA⟩
theorem toI_len (L : List Nat) : (toI L).length = L.length := by unfold toI; exact List.length_map _
theorem toI_at {L : List Nat} {j : Nat} (hj : j < L.length) : (toI L).getD j 0 = (L.getD j 0 : Nat) := by
  unfold toI
  rw [List.getD_eq_getElem?_getD, List.getElem?_map, List.getElem?_eq_getElem hj, List.getD_eq_getElem?_getD, List.getElem?_eq_getElem hj]; rfl
theorem at_cell {w : World} {V : Option Addr} {L : List Nat} (h : At w V (toI L)) {j : Nat} (hj : j < L.length) : ∃ b off, V = some ⟨b, off, none⟩ ∧ w.cell? ⟨b, off + j, none⟩ = some (.int .i64 (L.getD j 0 : Nat)) := by
  obtain ⟨b, off, h1, _, h2⟩ := h (by rw [toI_len]; omega)
  have := h2 j (by rw [toI_len]; exact hj)
  rw [toI_at hj] at this
  exact ⟨b, off, h1, this⟩
def two3 : List ByteArray := [⟨#[97, 98]⟩, ⟨#[97]⟩]
theorem two3_ok : okD two3 = true := by kernel_rfl
theorem two3_pos : ∀ k, k < two3.length → 1 ≤ szk two3 k := szk_pos two3_ok
theorem two3_sz : ∀ k, szk two3 k ≤ 1000 := fun k => by
  rcases Nat.lt_or_ge k 2 with h | h
  · rcases (show k = 0 ∨ k = 1 by omega) with rfl | rfl <;> decide
  · rw [szk_none (show two3.length ≤ k from h)]; omega
theorem two3_lon {id : Int} {long : Nat} (h : Lon two3 [97, 98, 99] 0 2 id long) : id = 0 ∧ long = 2 := by
  have s0 : stands two3 [97, 98, 99] 0 0 = true := by kernel_rfl
  rcases h with ⟨_, _, h⟩ | ⟨k, h1, h2, h3, h4, h5⟩
  · rw [h 0 (by decide)] at s0; cases s0
  · have h6 := h5 0 (by decide) s0
    have e0 : szk two3 0 = 2 := by kernel_rfl
    have e1 : szk two3 1 = 1 := by kernel_rfl
    rcases (show k = 0 ∨ k = 1 by omega) with rfl | rfl
    · exact ⟨h2, by rw [h3, e0]⟩
    · rw [h3, e1, e0] at h6; omega
def H3 : List (Int × Int) := [(1, 1), (2, 0)]
theorem two3_F0 : (startsF (szk two3) 2 2 H3).getD 0 [] = [1, 0] := by kernel_rfl
theorem two3_F1 : (startsF (szk two3) 2 2 H3).getD 1 [] = [] := by kernel_rfl
theorem two3_S0 : (startsL (szk two3) 2 2 H3).getD 0 [] = [0, 1] := by
  have e0 : szk two3 0 = 2 := by kernel_rfl
  have e1 : szk two3 1 = 1 := by kernel_rfl
  refine row_one (sz := szk two3) (nd_startsL (N := 2) (n := 2) two3_pos H3 0) (by decide) (so_startsL _ _) ?_ (fun k => ?_) (fun x hx y hy e => ?_)
  · refine List.pairwise_cons.2 ⟨fun y hy => ?_, List.pairwise_singleton _ _⟩
    rw [List.mem_singleton.1 hy, e0, e1]; decide
  · rw [startsL_at, two3_F0, (rowS_perm _).mem_iff]
    simp; omega
  · rw [startsL_at, two3_F0, (rowS_perm _).mem_iff] at hx hy
    simp at hx hy
    rcases hx with rfl | rfl <;> rcases hy with rfl | rfl <;> first | rfl | (rw [e0, e1] at e; omega)
theorem two3_S1 : (startsL (szk two3) 2 2 H3).getD 1 [] = [] := by
  rw [startsL_at, two3_F1]; unfold rowS; rw [List.mergeSort_nil]
set_option maxRecDepth 20000 in
set_option maxHeartbeats 2000000 in
theorem alive_call (w : World) : Calls Tryz.prog 41 #[] w fun e w' => e = .returned (.bool true) ∧ Below w.heap.size w w' := by
  have hs : StrsAt (w.alloc (.cells #[.string ⟨#[97, 98]⟩, .string ⟨#[97]⟩] 9)) (some ⟨w.heap.size, 0, none⟩) two3 := by
    intro _
    refine ⟨w.heap.size, 0, rfl, by simp, fun j hj => ?_⟩
    rw [Nat.zero_add]
    rcases (show j = 0 ∨ j = 1 by simp [two3] at hj; omega) with rfl | rfl
    · simp [two3]
    · simp [two3]
  have hmk := make_any (some ⟨w.heap.size, 0, none⟩) 2 2 two3 (w.alloc (.cells #[.string ⟨#[97, 98]⟩, .string ⟨#[97]⟩] 9)) rfl hs (by decide)
  clear hs
  go_enter Tryz.func41, Tryz.ntmps41
  go_wp2_with fail
  refine hmk.mono ?_
  rintro e w1 ⟨b1, ⟨hok, _⟩ | ⟨_, p, rfl, hp, hd⟩⟩
  · rw [two3_ok] at hok; cases hok
  have bel : Below w.heap.size w w1 := bstep (balloc (Below.refl _ _) _) b1
  have hD : Hid (DV (w.alloc (.cells #[.string ⟨#[97, 98]⟩, .string ⟨#[97]⟩] 9)).heap.size w1 (.pointer (some ⟨p, 0, none⟩)) two3) := Lib.hid (.inr ⟨p, rfl, hd⟩)
  clear hmk b1 hd hp
  have cL := longest_in ⟨#[97, 98, 99]⟩ hD.out two3_pos two3_sz (by decide) (by decide) (i := 0) (by decide)
  go_wp2_with fail
  refine cL.mono ?_
  rintro e w2 ⟨b2, id, long, rfl, hlo⟩
  obtain ⟨rfl, rfl⟩ := two3_lon hlo
  replace bel := bstep bel b2
  have hD2 : Hid (DV (w.alloc (.cells #[.string ⟨#[97, 98]⟩, .string ⟨#[97]⟩] 9)).heap.size (w2.alloc (.cells #[.int .i64 1, .int .i64 1, .int .i64 2, .int .i64 0] 93)) (.pointer (some ⟨p, 0, none⟩)) two3) := hD.out.below (balloc b2 _)
  have hH : HIn (w2.alloc (.cells #[.int .i64 1, .int .i64 1, .int .i64 2, .int .i64 0] 93)) (some ⟨w2.heap.size, 0, none⟩) H3 := by
    intro _
    refine ⟨w2.heap.size, 0, rfl, by simp, fun j hj => ?_⟩
    rw [Nat.zero_add]
    rcases (show j = 0 ∨ j = 1 by simp [H3] at hj; omega) with rfl | rfl <;> simp [H3]
  have cS := starts_any (n := 2) (m := 2) (cp := 2) hD2.out two3_pos two3_sz (by decide) (by decide) rfl (by decide) hH
  replace bel := balloc bel (.cells #[.int .i64 1, .int .i64 1, .int .i64 2, .int .i64 0] 93)
  clear cL hlo hH b2
  go_wp2_with fail
  refine cS.mono ?_
  rintro e w3 ⟨b3, g, B, rfl, _, _, hR⟩
  replace bel := bstep bel b3
  have hl : (startsL (szk two3) two3.length 2 H3).length = 2 := len_startsL two3_pos H3
  obtain ⟨V0, c0, k0, a0⟩ := rws_row hR (i := 0) (by omega)
  obtain ⟨V1, c1, k1, _⟩ := rws_row hR (i := 1) (by omega)
  have e0 : (startsL (szk two3) two3.length 2 H3).getD 0 [] = [0, 1] := two3_S0
  have e1 : (startsL (szk two3) two3.length 2 H3).getD 1 [] = [] := two3_S1
  rw [e0] at k0 a0
  rw [e1] at k1
  replace k0 : w3.cell? ⟨g, 0, none⟩ = some (.slice V0 2 c0) := k0
  replace k1 : w3.cell? ⟨g, 1, none⟩ = some (.slice V1 0 c1) := k1
  have hA2 : At (w3.alloc (.cells #[.int .i64 0, .int .i64 1] 3)) (some ⟨w3.heap.size, 0, none⟩) [0, 1] := by
    intro _
    refine ⟨w3.heap.size, 0, rfl, by simp, fun j hj => ?_⟩
    rw [Nat.zero_add]
    rcases (show j = 0 ∨ j = 1 by simp at hj; omega) with rfl | rfl <;> simp
  have cs := same_call V0 (some ⟨w3.heap.size, 0, none⟩) 2 2 c0 2 [0, 1] [0, 1] _ rfl rfl (a0.below (balloc (Below.refl _ _) _)) hA2 (by decide) (by decide)
  rw [show decide (([0, 1] : List Int) = [0, 1]) = true from rfl] at cs
  have k1A := pw_cell_below (balloc (Below.refl w3.heap.size w3) (.cells #[.int .i64 0, .int .i64 1] 3)) k1
  replace bel := balloc bel (.cells #[.int .i64 0, .int .i64 1] 3)
  clear cS hR hl a0 e0 e1 hA2 b3 hD hD2
  go_wp2_with fail
  refine cs.mono ?_
  rintro e w5 ⟨rfl, b5⟩
  have k5 := pw_cell_below b5 k1A
  have b6 := bstep bel b5
  clear cs bel b5 k1A k0 k1
  go_wp2_with fail
  go_ret
  exact ⟨rfl, b6⟩
end Go.Proofs.YtdeeeechdlcdbaaGreat.HiV
