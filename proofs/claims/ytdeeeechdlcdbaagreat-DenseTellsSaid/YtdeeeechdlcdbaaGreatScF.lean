/- The walk of (*Scanner).Feed. -/
import Derived.Test.YtdeeeechdlcdbaaGreatScH
import Derived.Test.YtdeeeechdlcdbaaGreatRg
import Derived.OneCell
set_option linter.unusedVariables false
set_option linter.unusedSimpArgs false
namespace Go.Proofs.YtdeeeechdlcdbaaGreat.ScF
open Go Go.RowKit Go.Sort Go.Proofs Go.Proofs.YtdeeeechdlcdbaaGreat Go.Proofs.YtdeeeechdlcdbaaGreat.Base Go.Proofs.YtdeeeechdlcdbaaGreat.DiA Go.Proofs.YtdeeeechdlcdbaaGreat.DiB Go.Proofs.YtdeeeechdlcdbaaGreat.DiC Go.Proofs.YtdeeeechdlcdbaaGreat.TrP Go.Proofs.YtdeeeechdlcdbaaGreat.TrM Go.Proofs.YtdeeeechdlcdbaaGreat.TrA Go.Proofs.YtdeeeechdlcdbaaGreat.TrD Go.Proofs.YtdeeeechdlcdbaaGreat.TrE Go.Proofs.YtdeeeechdlcdbaaGreat.TtP Go.Proofs.YtdeeeechdlcdbaaGreat.TcP Go.Proofs.YtdeeeechdlcdbaaGreat.TwA Go.Proofs.YtdeeeechdlcdbaaGreat.LkA Go.Proofs.YtdeeeechdlcdbaaGreat.LkP Go.Proofs.YtdeeeechdlcdbaaGreat.LkM Go.Proofs.YtdeeeechdlcdbaaGreat.LkL Go.Proofs.YtdeeeechdlcdbaaGreat.LkO Go.Proofs.YtdeeeechdlcdbaaGreat.LkQ Go.Proofs.YtdeeeechdlcdbaaGreat.LkN Go.Proofs.YtdeeeechdlcdbaaGreat.LkS Go.Proofs.YtdeeeechdlcdbaaGreat.LkX Go.Proofs.YtdeeeechdlcdbaaGreat.PhP Go.Proofs.YtdeeeechdlcdbaaGreat.PhW Go.Proofs.YtdeeeechdlcdbaaGreat.ScP Go.Proofs.YtdeeeechdlcdbaaGreat.ScS Go.Proofs.YtdeeeechdlcdbaaGreat.ScH
/-- Hits in memory. -/
def hitC (H : List (Nat × Nat)) : List Value := H.flatMap fun x => [.int .i64 (x.1 : Int), .int .i64 (x.2 : Int)]
theorem hitC_app (a b : List (Nat × Nat)) : hitC (a ++ b) = hitC a ++ hitC b := List.flatMap_append
theorem hitCells_C (at_ : Nat) (E : List Nat) : hitCells at_ E = hitC (E.map fun k => (at_, k)) := by
  unfold hitCells hitC; rw [List.flatMap_map]
/-- The hits behind the first i bytes of b, s being what was fed before, at bytes in number. -/
def feedU (zs : List ByteArray) (s : List UInt8) (at_ : Nat) (b : List UInt8) (i : Nat) : List (Nat × Nat) :=
  (List.range i).flatMap fun j => (ends zs (s ++ b.take (j + 1)) (s ++ b.take (j + 1)).length).map fun k => (at_ + (j + 1), k)
theorem feedU_succ (zs : List ByteArray) (s : List UInt8) (at_ : Nat) (b : List UInt8) (i : Nat) : feedU zs s at_ b (i + 1) = feedU zs s at_ b i ++ (ends zs (s ++ b.take (i + 1)) (s ++ b.take (i + 1)).length).map fun k => (at_ + (i + 1), k) := by
  unfold feedU
  rw [List.range_succ, List.flatMap_append]
  simp
theorem feedU_len {zs : List ByteArray} {X : List Pn} (hT : Tr zs X) (s : List UInt8) (at_ : Nat) (b : List UInt8) : ∀ i, (feedU zs s at_ b i).length ≤ 40 * i
  | 0 => by simp [feedU]
  | i + 1 => by
    rw [feedU_succ, List.length_append, List.length_map, ends_40 hT]
    have h1 := feedU_len hT s at_ b i
    have h2 := ends_length zs (s ++ b.take (i + 1)) (min (s ++ b.take (i + 1)).length 40)
    have h3 := Nat.min_le_right (s ++ b.take (i + 1)).length 40
    omega
theorem take_byte {b : ByteArray} {i : Nat} (h : i < b.size) : b.data.toList.take (i + 1) = b.data.toList.take i ++ [byte (TrP.byteOf b i)] := by
  have hl : i < b.data.toList.length := by rw [← size_list]; exact h
  rw [List.take_succ_eq_append_getElem hl]
  congr 2
  unfold byte TrP.byteOf
  rw [List.getD_eq_getElem?_getD, List.getElem?_eq_getElem hl]
  simp
def fdV (q p node ix : Nat) (X : List Pn) (c : Int) (b : ByteArray) (wr : World) (i : Nat) (_pv v : Value) (W : World) : Prop := match i with
  | 0 => v = .pointer (some ⟨q, 0, none⟩)
  | 1 => v = .pointer (some ⟨q, 0, none⟩)
  | 2 => v = .pointer (some ⟨q, 0, none⟩)
  | 3 => v = .pointer (some ⟨q, 0, none⟩)
  | 4 => v = .pointer (some ⟨p, 0, none⟩)
  | 5 => v = .pointer (some ⟨q, 0, none⟩)
  | 6 => v = .pointer (some ⟨q, 0, none⟩)
  | 7 => v = .pointer (some ⟨q, 1, none⟩)
  | 8 => v = .int .i64 (node : Int)
  | 9 => v = .string b
  | 10 => v = .int .i64 (ix : Int)
  | 11 => v = .int .u8 c
  | 12 => ∃ r : Nat, v = .int .i64 (r : Int) ∧ Lg X (tx X node ++ [byte c]) ((tx X node).length + 1) r
  | 13 => v = .pointer (some ⟨q, 0, none⟩)
  | 14 => v = .pointer (some ⟨q, 1, none⟩)
  | 15 => ∃ (r : Nat) (W0 : World), Below wr.heap.size wr W0 ∧ W = W0.setCell ⟨q, 1, none⟩ (.int .i64 (r : Int)) ∧ Lg X (tx X node ++ [byte c]) ((tx X node).length + 1) r
  | _ => True
def fdU (wr : World) (i : Nat) (W : World) : Prop := (i = 4 ∨ i = 8 ∨ i = 12 ∨ i = 15) → Below wr.heap.size wr W
def fdR (q : Nat) (i : Nat) (W W' : World) : Prop := (i = 12 ∧ Below W.heap.size W W') ∨ (i = 15 ∧ ∃ r : Nat, W' = W.setCell ⟨q, 1, none⟩ (.int .i64 (r : Int))) ∨ (i ≠ 12 ∧ i ≠ 15 ∧ W' = W)
theorem fdR_same {q i : Nat} {W W' : World} (h1 : i ≠ 12) (h2 : i ≠ 15) (h : fdR q i W W') : W' = W := by
  rcases h with ⟨h, _⟩ | ⟨h, _⟩ | ⟨_, _, h⟩
  · exact absurd h h1
  · exact absurd h h2
  · exact h
theorem fdR_below {q i : Nat} {W W' : World} (h2 : i ≠ 15) (h : fdR q i W W') : Below W.heap.size W W' := by
  rcases h with ⟨_, h⟩ | ⟨h, _⟩ | ⟨_, _, h⟩
  · exact h
  · exact absurd h h2
  · subst h; exact Below.refl _ _
theorem fdU_start (w : World) (i : Nat) : fdU w i { heap := w.heap, tape := w.tape, drawn := w.drawn + 1, os := w.os, output := w.output } := fun _ => below_drew (Below.refl _ _)
theorem fdU_stay {q i j : Nat} {wr W W' : World} (h1 : j ≠ i) (h2 : j ∉ ([[], [], [1], [2], [3], [], [5], [6], [7], [], [], [9, 10], [4, 8, 11], [0, 0, 1, 2, 3, 4, 5, 6, 7, 8, 9, 10, 11, 12], [13, 0, 1, 2, 3, 4, 5, 6, 7, 8, 9, 10, 11, 12], [14, 12, 12, 0, 1, 2, 3, 4, 5, 6, 7, 8, 9, 10, 11, 12]] : List (List Nat)).getD i []) (h : fdU wr j W) (k : fdR q i W W') : fdU wr j W' := by
  intro hj
  by_cases hi : i = 15
  · subst hi
    rcases hj with rfl | rfl | rfl | rfl
    · exact absurd (by decide) h2
    · exact absurd (by decide) h2
    · exact absurd (by decide) h2
    · exact absurd rfl h1
  · exact bstep (h hj) (fdR_below hi k)
theorem fdV_stay {q p node ix i j : Nat} {X : List Pn} {c : Int} {b : ByteArray} {wr W W' : World} {pv v : Value} (h1 : i ≠ j) (h2 : i ∉ ([[], [], [1], [2], [3], [], [5], [6], [7], [], [], [9, 10], [4, 8, 11], [0, 0, 1, 2, 3, 4, 5, 6, 7, 8, 9, 10, 11, 12], [13, 0, 1, 2, 3, 4, 5, 6, 7, 8, 9, 10, 11, 12], [14, 12, 12, 0, 1, 2, 3, 4, 5, 6, 7, 8, 9, 10, 11, 12]] : List (List Nat)).getD j []) (h : fdV q p node ix X c b wr j pv v W) (k : fdR q i W W') : fdV q p node ix X c b wr j pv v W' := by
  unfold fdV at h ⊢
  split at h
  · exact h
  · exact h
  · exact h
  · exact h
  · exact h
  · exact h
  · exact h
  · exact h
  · exact h
  · exact h
  · exact h
  · exact h
  · exact h
  · exact h
  · exact h
  · have h12 : i ≠ 12 := fun e => by subst e; exact absurd (by decide) h2
    rw [fdR_same h12 h1 k]
    exact h
  · trivial
theorem ScAt.drew {w : World} {q p node at_ : Nat} (h : ScAt w q p node at_) : ScAt { w with drawn := w.drawn + 1 } q p node at_ := h
theorem ScAt.set1 {w : World} {q p node at_ : Nat} (h : ScAt w q p node at_) (r : Nat) : ScAt (w.setCell ⟨q, 1, none⟩ (.int .i64 (r : Int))) q p r at_ := by
  show (w.setCell ⟨q, 1, none⟩ (.int .i64 (r : Int))).heap[q]? = _
  rw [heap_setN h]; rfl
theorem ScAt.set2 {w : World} {q p node at_ : Nat} (h : ScAt w q p node at_) (r : Nat) : ScAt (w.setCell ⟨q, 2, none⟩ (.int .i64 (r : Int))) q p node r := by
  show (w.setCell ⟨q, 2, none⟩ (.int .i64 (r : Int))).heap[q]? = _
  rw [heap_setN h]; rfl
set_option maxRecDepth 20000 in
set_option maxHeartbeats 8000000 in
theorem feed_any {B q p px m node at_ : Nat} {N : List Nd} {F O L : List Nat} {w : World} {X : List Pn} {zs : List ByteArray} {s : List UInt8} (b : ByteArray) (hS : ScAt w q p node at_) (h : ∀ W, LkL.Twin q q w W → LkAt B W p px N m F O L) (hX : N.map (·.p) = X) (hok : LkOk X F O L) (hT : Tr zs X) (hbig : N.length ≤ 1000000) (hs : Lg X s s.length node) (hbl : b.size ≤ 100000) (hatl : at_ ≤ 1000000000) :
    Calls Tryz.prog 24 #[.pointer (some ⟨q, 0, none⟩), .string b] w fun e w' => ∃ v node', e = .returned v ∧ w'.ownsRow w.heap.size 93 2 v (feedU zs s at_ b.data.toList b.size).length (hitC (feedU zs s at_ b.data.toList b.size)) ∧ ScAt w' q p node' (at_ + b.size) ∧ Lg X (s ++ b.data.toList) (s ++ b.data.toList).length node' ∧ LkL.Twin q q w w' := by
  obtain ⟨i0, hi, hz0, hz1, hz2⟩ := info_parts info35
  have hh : Hid (∀ W, LkL.Twin q q w W → LkAt B W p px N m F O L) := h
  have hXh : Hid (N.map (·.p) = X) := hX
  have hokh : Hid (LkOk X F O L) := hok
  have hTh : Hid (Tr zs X) := hT
  have hbh : Hid (N.length ≤ 1000000) := hbig
  have hqlt := heap_lt hS
  have hst : Hid (Lg X (s ++ b.data.toList.take 0) (s ++ b.data.toList.take 0).length node) := by rw [List.take_zero, List.append_nil]; exact hs
  obtain ⟨nb, hnb⟩ : ∃ nb, b.size = nb := ⟨_, rfl⟩
  have hnbh : Hid (b.size = nb) := hnb
  rw [hnb] at hbl ⊢
  have hfull : Hid (b.data.toList.take nb = b.data.toList) := List.take_of_length_le (by rw [← size_list, hnb]; exact Nat.le_refl _)
  have hFU : Hid (∀ i, (feedU zs s at_ b.data.toList i).length ≤ 40 * i) := feedU_len hT s at_ b.data.toList
  clear h hX hok hT hbig hs
  go_enter Tryz.func24, Tryz.ntmps24
  go_wp2_with fail
  go_loopw [5, 11] (fun sv si wr => ∃ (i node : Nat), i ≤ nb ∧ si = .int .i64 (i : Int) ∧ Hid (Lg X (s ++ b.data.toList.take i) (s ++ b.data.toList.take i).length node) ∧ ScAt wr q p node (at_ + i) ∧ wr.ownsRow w.heap.size 93 2 sv (feedU zs s at_ b.data.toList i).length (hitC (feedU zs s at_ b.data.toList i)) ∧ LkL.Twin q q w wr) (fun _ si _ => nb - (intOf si).toNat)
  case atStart => exact ⟨0, node, Nat.zero_le _, rfl, hst, hS, World.ownsRow_nil _ _ _ _, Twin.refl _ _ _⟩
  case round =>
    clear hst hS node
    obtain ⟨i, node, hin, rfl, hlg, hS, hrow, tw⟩ := hrel
    obtain ⟨V0, cp0, rfl, _⟩ := own_form hrow
    by_cases hlt : i < nb
    · have hkd : decide ((i : Int) < (nb : Int)) = true := decide_eq_true (by omega)
      have hj2 : i < b.size := by rw [hnb]; exact hlt
      have hii : (i : Int) < (nb : Int) := by omega
      have hcr := TrP.byteOf_range b i
      have hbj := byte_get b i hj2
      have htk := take_byte hj2
      generalize TrP.byteOf b i = c at hcr hbj htk
      have htkh : Hid (b.data.toList.take (i + 1) = b.data.toList.take i ++ [byte c]) := htk
      have c0 : wr.cell? ⟨q, 0, none⟩ = some (.pointer (some ⟨p, 0, none⟩)) := cell_of hS rfl
      have c1 : wr.cell? ⟨q, 1, none⟩ = some (.int .i64 (node : Int)) := cell_of hS rfl
      have hndX := hlg.out.lt
      have hcS : ∀ W, Below wr.heap.size wr W → Calls Tryz.prog 73 #[.pointer (some ⟨p, 0, none⟩), .int .i64 (node : Int), .int .u8 c] W fun e w' => (∃ r : Nat, e = .returned (.int .i64 (r : Int)) ∧ Lg X (tx X node ++ [byte c]) ((tx X node).length + 1) r) ∧ Below W.heap.size W w' := fun W hW =>
        step_in (hh.out W (tw.trans (Twin.of_below hW))) hXh.out hokh.out hTh.out hbh.out hndX hcr
      have hrowh : Hid (wr.ownsRow w.heap.size 93 2 (.slice V0 (feedU zs s at_ b.data.toList i).length cp0) (feedU zs s at_ b.data.toList i).length (hitC (feedU zs s at_ b.data.toList i))) := hrow
      have hSh : Hid (ScAt wr q p node (at_ + i)) := hS
      have twh : Hid (LkL.Twin q q w wr) := tw
      have hwsz := tw.size
      have hrange : 0 ≤ c ∧ c ≤ 255 := hcr
      clear htk hcr hrow hS tw hnb
      go_wp2_with fail
      refine RegU.wp_region_lists (fun _ => True) (fdU wr) (fdR q) (fun i => i) (fdV q p node i X c b wr)
        [some 14, some 15, some 16, some 17, some 18, some 19, some 20, some 21, some 22, some 23, some 24, some 25, some 26, some 27, some 28, none]
        [[], [], [1], [2], [3], [], [5], [6], [7], [], [], [9, 10], [4, 8, 11], [0, 0, 1, 2, 3, 4, 5, 6, 7, 8, 9, 10, 11, 12], [13, 0, 1, 2, 3, 4, 5, 6, 7, 8, 9, 10, 11, 12], [14, 12, 12, 0, 1, 2, 3, 4, 5, 6, 7, 8, 9, 10, 11, 12]]
        (by kernel_rfl) (by kernel_rfl) (by kernel_rfl) (fun i => .inl rfl) trivial (fun i => fdU_start wr i) (fun _ _ _ _ _ => trivial) (fun j i W W' h1 h2 h3 h4 => fdU_stay h1 h2 h3 h4) (fun j i p v W W' h1 h2 h3 h4 => fdV_stay h1 h2 h3 h4) ?_ ?_
      · refine ⟨?_, ?_, ?_, ?_, ?_, ?_, ?_, ?_, ?_, ?_, ?_, ?_, ?_, ?_, ?_, ?_, trivial⟩
        · intro vals W K hG hU hV hK
          simp only [if_true] at hK
          simp only [Reg.putS, List.foldl, List.headD, List.tail, List.getD_cons_zero, List.getD_cons_succ, Act.put, List.setIfInBounds_toArray, List.set_cons_zero, List.set_cons_succ] at hK ⊢
          go_simp
          first
            | exact hK _ _ (.inr (.inr ⟨by decide, by decide, rfl⟩)) rfl
            | (rw [if_pos (by omega)]; exact hK _ _ (.inr (.inr ⟨by decide, by decide, rfl⟩)) rfl)
            | (rw [dif_pos (by omega)]; exact hK _ _ (.inr (.inr ⟨by decide, by decide, rfl⟩)) rfl)
        · intro vals W K hG hU hV hK
          simp only [if_true] at hK
          simp only [Reg.putS, List.foldl, List.headD, List.tail, List.getD_cons_zero, List.getD_cons_succ, Act.put, List.setIfInBounds_toArray, List.set_cons_zero, List.set_cons_succ] at hK ⊢
          go_simp
          first
            | exact hK _ _ (.inr (.inr ⟨by decide, by decide, rfl⟩)) rfl
            | (rw [if_pos (by omega)]; exact hK _ _ (.inr (.inr ⟨by decide, by decide, rfl⟩)) rfl)
            | (rw [dif_pos (by omega)]; exact hK _ _ (.inr (.inr ⟨by decide, by decide, rfl⟩)) rfl)
        · intro vals W K hG hU hV hK
          simp only [if_true] at hK
          have d1 := hV 1 (by simp)
          simp only [fdV] at d1
          simp only [Reg.putS, List.foldl, List.headD, List.tail, List.getD_cons_zero, List.getD_cons_succ, Act.put, List.setIfInBounds_toArray, List.set_cons_zero, List.set_cons_succ, d1] at hK ⊢
          go_simp
          first
            | exact hK _ _ (.inr (.inr ⟨by decide, by decide, rfl⟩)) rfl
            | (rw [if_pos (by omega)]; exact hK _ _ (.inr (.inr ⟨by decide, by decide, rfl⟩)) rfl)
            | (rw [dif_pos (by omega)]; exact hK _ _ (.inr (.inr ⟨by decide, by decide, rfl⟩)) rfl)
        · intro vals W K hG hU hV hK
          simp only [if_true] at hK
          have d2 := hV 2 (by simp)
          simp only [fdV] at d2
          simp only [Reg.putS, List.foldl, List.headD, List.tail, List.getD_cons_zero, List.getD_cons_succ, Act.put, List.setIfInBounds_toArray, List.set_cons_zero, List.set_cons_succ, d2] at hK ⊢
          go_simp
          first
            | exact hK _ _ (.inr (.inr ⟨by decide, by decide, rfl⟩)) rfl
            | (rw [if_pos (by omega)]; exact hK _ _ (.inr (.inr ⟨by decide, by decide, rfl⟩)) rfl)
            | (rw [dif_pos (by omega)]; exact hK _ _ (.inr (.inr ⟨by decide, by decide, rfl⟩)) rfl)
        · intro vals W K hG hU hV hK
          simp only [if_true] at hK
          have d3 := hV 3 (by simp)
          simp only [fdV] at d3
          simp only [Reg.putS, List.foldl, List.headD, List.tail, List.getD_cons_zero, List.getD_cons_succ, Act.put, List.setIfInBounds_toArray, List.set_cons_zero, List.set_cons_succ, d3] at hK ⊢
          have hcl : W.cell? ⟨q, 0, none⟩ = some (.pointer (some ⟨p, 0, none⟩)) := pw_cell_below (hU (by decide)) c0
          go_simp
          first
            | exact hK _ _ (.inr (.inr ⟨by decide, by decide, rfl⟩)) rfl
            | (rw [if_pos (by omega)]; exact hK _ _ (.inr (.inr ⟨by decide, by decide, rfl⟩)) rfl)
            | (rw [dif_pos (by omega)]; exact hK _ _ (.inr (.inr ⟨by decide, by decide, rfl⟩)) rfl)
        · intro vals W K hG hU hV hK
          simp only [if_true] at hK
          simp only [Reg.putS, List.foldl, List.headD, List.tail, List.getD_cons_zero, List.getD_cons_succ, Act.put, List.setIfInBounds_toArray, List.set_cons_zero, List.set_cons_succ] at hK ⊢
          go_simp
          first
            | exact hK _ _ (.inr (.inr ⟨by decide, by decide, rfl⟩)) rfl
            | (rw [if_pos (by omega)]; exact hK _ _ (.inr (.inr ⟨by decide, by decide, rfl⟩)) rfl)
            | (rw [dif_pos (by omega)]; exact hK _ _ (.inr (.inr ⟨by decide, by decide, rfl⟩)) rfl)
        · intro vals W K hG hU hV hK
          simp only [if_true] at hK
          have d5 := hV 5 (by simp)
          simp only [fdV] at d5
          simp only [Reg.putS, List.foldl, List.headD, List.tail, List.getD_cons_zero, List.getD_cons_succ, Act.put, List.setIfInBounds_toArray, List.set_cons_zero, List.set_cons_succ, d5] at hK ⊢
          go_simp
          first
            | exact hK _ _ (.inr (.inr ⟨by decide, by decide, rfl⟩)) rfl
            | (rw [if_pos (by omega)]; exact hK _ _ (.inr (.inr ⟨by decide, by decide, rfl⟩)) rfl)
            | (rw [dif_pos (by omega)]; exact hK _ _ (.inr (.inr ⟨by decide, by decide, rfl⟩)) rfl)
        · intro vals W K hG hU hV hK
          simp only [if_true] at hK
          have d6 := hV 6 (by simp)
          simp only [fdV] at d6
          simp only [Reg.putS, List.foldl, List.headD, List.tail, List.getD_cons_zero, List.getD_cons_succ, Act.put, List.setIfInBounds_toArray, List.set_cons_zero, List.set_cons_succ, d6] at hK ⊢
          go_simp
          first
            | exact hK _ _ (.inr (.inr ⟨by decide, by decide, rfl⟩)) rfl
            | (rw [if_pos (by omega)]; exact hK _ _ (.inr (.inr ⟨by decide, by decide, rfl⟩)) rfl)
            | (rw [dif_pos (by omega)]; exact hK _ _ (.inr (.inr ⟨by decide, by decide, rfl⟩)) rfl)
        · intro vals W K hG hU hV hK
          simp only [if_true] at hK
          have d7 := hV 7 (by simp)
          simp only [fdV] at d7
          simp only [Reg.putS, List.foldl, List.headD, List.tail, List.getD_cons_zero, List.getD_cons_succ, Act.put, List.setIfInBounds_toArray, List.set_cons_zero, List.set_cons_succ, d7] at hK ⊢
          have hcl : W.cell? ⟨q, 1, none⟩ = some (.int .i64 (node : Int)) := pw_cell_below (hU (by decide)) c1
          go_simp
          first
            | exact hK _ _ (.inr (.inr ⟨by decide, by decide, rfl⟩)) rfl
            | (rw [if_pos (by omega)]; exact hK _ _ (.inr (.inr ⟨by decide, by decide, rfl⟩)) rfl)
            | (rw [dif_pos (by omega)]; exact hK _ _ (.inr (.inr ⟨by decide, by decide, rfl⟩)) rfl)
        · intro vals W K hG hU hV hK
          simp only [if_true] at hK
          simp only [Reg.putS, List.foldl, List.headD, List.tail, List.getD_cons_zero, List.getD_cons_succ, Act.put, List.setIfInBounds_toArray, List.set_cons_zero, List.set_cons_succ] at hK ⊢
          go_simp
          first
            | exact hK _ _ (.inr (.inr ⟨by decide, by decide, rfl⟩)) rfl
            | (rw [if_pos (by omega)]; exact hK _ _ (.inr (.inr ⟨by decide, by decide, rfl⟩)) rfl)
            | (rw [dif_pos (by omega)]; exact hK _ _ (.inr (.inr ⟨by decide, by decide, rfl⟩)) rfl)
        · intro vals W K hG hU hV hK
          simp only [if_true] at hK
          simp only [Reg.putS, List.foldl, List.headD, List.tail, List.getD_cons_zero, List.getD_cons_succ, Act.put, List.setIfInBounds_toArray, List.set_cons_zero, List.set_cons_succ] at hK ⊢
          go_simp
          first
            | exact hK _ _ (.inr (.inr ⟨by decide, by decide, rfl⟩)) rfl
            | (rw [if_pos (by omega)]; exact hK _ _ (.inr (.inr ⟨by decide, by decide, rfl⟩)) rfl)
            | (rw [dif_pos (by omega)]; exact hK _ _ (.inr (.inr ⟨by decide, by decide, rfl⟩)) rfl)
        · intro vals W K hG hU hV hK
          simp only [if_true] at hK
          have d9 := hV 9 (by simp)
          simp only [fdV] at d9
          have d10 := hV 10 (by simp)
          simp only [fdV] at d10
          simp only [Reg.putS, List.foldl, List.headD, List.tail, List.getD_cons_zero, List.getD_cons_succ, Act.put, List.setIfInBounds_toArray, List.set_cons_zero, List.set_cons_succ, d9, d10] at hK ⊢
          go_simp
          first
            | exact hK _ _ (.inr (.inr ⟨by decide, by decide, rfl⟩)) rfl
            | (rw [if_pos (by omega)]; exact hK _ _ (.inr (.inr ⟨by decide, by decide, rfl⟩)) rfl)
            | (rw [dif_pos (by omega)]; exact hK _ _ (.inr (.inr ⟨by decide, by decide, rfl⟩)) rfl)
        · intro vals W K hG hU hV hK
          simp only [if_true] at hK
          have d4 := hV 4 (by simp)
          simp only [fdV] at d4
          have d8 := hV 8 (by simp)
          simp only [fdV] at d8
          have d11 := hV 11 (by simp)
          simp only [fdV] at d11
          simp only [Reg.putS, List.foldl, List.headD, List.tail, List.getD_cons_zero, List.getD_cons_succ, Act.put, List.setIfInBounds_toArray, List.set_cons_zero, List.set_cons_succ, d4, d8, d11] at hK ⊢
          have hc := hcS W (hU (by decide))
          go_simp
          refine hc.mono ?_
          rintro e w2 ⟨⟨r, rfl, hr⟩, hb⟩
          exact hK _ _ (.inl ⟨rfl, hb⟩) ⟨r, rfl, hr⟩
        · refine Step.step_of ?g ?_
          case g => rfl
          intro A vals W K hA hG hU hV hK
          simp only [if_true] at hK
          have d0 := hV 0 (by simp)
          simp only [fdV] at d0
          have e14 : A.tmps[14]?.getD undef = _ := (Step.putA hA rfl (Nat.lt_of_sub_eq_succ rfl)).trans d0
          clear hA hV hU
          unfold Oper.wp
          go_simp
          exact hK _ _ (.inr (.inr ⟨by decide, by decide, rfl⟩)) rfl
        · refine Step.step_of ?g ?_
          case g => rfl
          intro A vals W K hA hG hU hV hK
          simp only [if_true] at hK
          have d13 := hV 13 (by simp)
          simp only [fdV] at d13
          have e27 : A.tmps[27]?.getD undef = _ := (Step.putA hA rfl (Nat.lt_of_sub_eq_succ rfl)).trans d13
          clear hA hV hU
          unfold Oper.wp
          go_simp
          exact hK _ _ (.inr (.inr ⟨by decide, by decide, rfl⟩)) rfl
        · refine Step.step_of ?g ?_
          case g => rfl
          intro A vals W K hA hG hU hV hK
          simp only [if_true] at hK
          have d14 := hV 14 (by simp)
          simp only [fdV] at d14
          have e28 : A.tmps[28]?.getD undef = _ := (Step.putA hA rfl (Nat.lt_of_sub_eq_succ rfl)).trans d14
          have d12 := hV 12 (by simp)
          simp only [fdV] at d12
          obtain ⟨r, d12, hr12⟩ := d12
          have e26 : A.tmps[26]?.getD undef = _ := (Step.putA hA rfl (Nat.lt_of_sub_eq_succ rfl)).trans d12
          have SW0 := hSh.out.below (hU (by decide))
          have s1 : W.cell? ⟨q, 1, none⟩ = some (.int .i64 (node : Int)) := cell_of SW0 rfl
          have s2 : W.frozen? ⟨q, 1, none⟩ = false := frozen_of SW0
          have hzz := Tryz.sizeOf3
          have hUU := hU (by decide)
          clear hA hV hU SW0
          unfold Oper.wp
          go_simp
          exact hK undef _ (.inr (.inl ⟨rfl, r, rfl⟩)) ⟨r, W, hUU, rfl, hr12⟩
      · intro vals W hG hV
        have d15 := hV 15 (by decide)
        simp only [fdV] at d15
        obtain ⟨r, W0, hR, hW, hr12⟩ := d15
        clear hV
        rw [show List.range (List.length [some 14, some 15, some 16, some 17, some 18, some 19, some 20, some 21, some 22, some 23, some 24, some 25, some 26, some 27, some 28, none]) = [0, 1, 2, 3, 4, 5, 6, 7, 8, 9, 10, 11, 12, 13, 14, 15] from rfl]
        simp only [Reg.putS, List.foldl, List.getD_cons_zero, List.getD_cons_succ, Act.put, List.setIfInBounds_toArray, List.set_cons_zero, List.set_cons_succ]
        have bW : Below wr.heap.size wr W0 := hR
        have SW0 := hSh.out.below bW
        have twW := twh.out.trans (Twin.of_below bW)
        have rowW := own_below hrowh.out bW
        have S1 := ScAt.set1 SW0 r
        have t1 := twW.trans (Twin.of_set (g1 := q) (g2 := q) (i := 1) W0 (.int .i64 (r : Int)) (.inl rfl))
        have row1 := ownsRow_setCell_below rowW (a := ⟨q, 1, none⟩) hqlt (.int .i64 (r : Int))
        have hlg1 : Hid (Lg X (s ++ b.data.toList.take (i + 1)) (s ++ b.data.toList.take (i + 1)).length r) := by
          rw [htkh.out, ← List.append_assoc, List.length_append, List.length_singleton]
          exact lg_feed hTh.out.good hTh.out.fine hlg.out hr12
        clear hR c0 c1 hcS bW SW0 twW rowW hlg hr12 hSh twh hrowh hbj hndX hrange htkh hj2
        rw [← hW] at S1 t1 row1
        have hW1 : w.heap.size ≤ W.heap.size := t1.size
        clear hW hG
        obtain ⟨w1, hw1⟩ : ∃ w1, w1 = W := ⟨_, rfl⟩
        subst hw1
        have e2 : w1.cell? ⟨q, 2, none⟩ = some (.int .i64 ((at_ + i : Nat) : Int)) := cell_of S1 rfl
        have f2 : w1.frozen? ⟨q, 2, none⟩ = false := frozen_of S1
        have za : IntKind.i64.wrap ((at_ : Int) + (i : Int) + 1) = ((at_ + (i + 1) : Nat) : Int) := by rw [IntKind.wrap_i64]; omega
        have za2 : IntKind.i64.wrap (((at_ + i : Nat) : Int) + 1) = ((at_ + (i + 1) : Nat) : Int) := by rw [IntKind.wrap_i64]; omega
        have S2 := ScAt.set2 S1 (at_ + (i + 1))
        have t2 := t1.trans (Twin.of_set (g1 := q) (g2 := q) (i := 2) w1 (.int .i64 ((at_ + (i + 1) : Nat) : Int)) (.inl rfl))
        have row2 := ownsRow_setCell_below row1 (a := ⟨q, 2, none⟩) hqlt (.int .i64 ((at_ + (i + 1) : Nat) : Int))
        obtain ⟨w2, hw2⟩ : ∃ w2, w2 = w1.setCell ⟨q, 2, none⟩ (.int .i64 ((at_ + (i + 1) : Nat) : Int)) := ⟨_, rfl⟩
        have hw2h : Hid (w2 = w1.setCell ⟨q, 2, none⟩ (.int .i64 ((at_ : Int) + ((i : Int) + 1)))) := by show _ = _; rw [hw2, show ((at_ + (i + 1) : Nat) : Int) = (at_ : Int) + ((i : Int) + 1) by omega]
        rw [← hw2] at S2 t2 row2
        clear hw2 t1 row1
        have cH := hits_any S2 (hh.out w2 t2) hXh.out hokh.out hTh.out hbh.out hlg1.out
        obtain ⟨EE, hEE⟩ : ∃ EE, ends zs (s ++ b.data.toList.take (i + 1)) (s ++ b.data.toList.take (i + 1)).length = EE := ⟨_, rfl⟩
        have hFs := feedU_succ zs s at_ b.data.toList i
        rw [hEE] at cH hFs
        have hlen1 := hFU.out (i + 1)
        have hlen0 : (feedU zs s at_ b.data.toList (i + 1)).length = (feedU zs s at_ b.data.toList i).length + EE.length := by rw [hFs, List.length_append, List.length_map]
        have hcells : Hid (hitC (feedU zs s at_ b.data.toList (i + 1)) = hitC (feedU zs s at_ b.data.toList i) ++ hitCells (at_ + (i + 1)) EE) := by show _ = _; rw [hFs, hitC_app, hitCells_C]
        have hlen0h : Hid ((feedU zs s at_ b.data.toList (i + 1)).length = (feedU zs s at_ b.data.toList i).length + EE.length) := hlen0
        have hlb : (feedU zs s at_ b.data.toList i).length + EE.length ≤ 40 * 100001 := by omega
        clear hEE hFs hlen1 hlen0
        rw [Int.natCast_add] at e2
        go_wp2_with fail
        rw [← hw2h.out]
        clear hw2h S1 e2 f2 za za2
        refine cH.mono ?_
        rintro e w3 ⟨v3, rfl, hr3, b3⟩
        have t3 := t2.trans (Twin.of_below b3)
        have row3 := own_below row2 b3
        have S3 := S2.below b3
        have hsz2 := t2.size
        have hsz3 := b3.size
        clear cH t2 row2 S2 b3
        have z1 : IntKind.i64.wrap ((i : Int) + 1) = (i : Int) + 1 := by rw [IntKind.wrap_i64]; omega
        rcases hr3.2 with ⟨rfl, h0⟩ | ⟨g3, cap3, cur3, rfl, h2, h3, h4, h5, h6, h7⟩
        · have hrowF : w3.ownsRow w.heap.size 93 2 (.slice V0 (feedU zs s at_ b.data.toList i).length cp0) (feedU zs s at_ b.data.toList (i + 1)).length (hitC (feedU zs s at_ b.data.toList (i + 1))) := by
            have hE0 : EE = [] := List.eq_nil_of_length_eq_zero h0
            rw [hlen0h.out, hcells.out, hE0]
            simpa [hitCells] using row3
          clear hr3 h0
          go_wp2_with (first | (at_builtin; refine wpList_append_own_none rfl (.tmp 36) (.tmp 38) 52 rfl w.heap.size 93 i0 2 Tryz.underlying52 hi _ _ _ rfl row3 rfl ?_))
          go_wp2_with fail
          go_roundw
          case rel => exact ⟨i + 1, r, by omega, by go_num, hlg1, S3, hrowF, t3⟩
          case measure => simp [intOf]; omega
        · have hcs := World.ownsRow.cells (g := g3) hr3 rfl
          have hg3q : Hid (w2.heap.size ≤ g3) := h2
          clear h2 h3 h4 h5 h6 h7
          go_wp2_with (first | (at_builtin; refine wpList_append_own _ rfl (.tmp 36) (.tmp 38) 52 rfl w.heap.size 93 i0 _ 2 16 Tryz.underlying52 hi hz0 hz1 hz2 rfl (by decide) _ (feedU zs s at_ b.data.toList i).length (hitC (feedU zs s at_ b.data.toList i)) rfl row3 ⟨g3, 0, none⟩ EE.length cap3 (hitCells (at_ + (i + 1)) EE) rfl ?k0 ?k1 ?k2 ?k3 ?k4 ?k5 ?_))
          case k0 => exact hr3.1
          case k1 => exact hcs
          case k2 =>
            intro u hu
            unfold hitCells at hu
            obtain ⟨x, _, hx⟩ := List.mem_flatMap.1 hu
            simp at hx
            rcases hx with rfl | rfl <;> rfl
          case k3 => unfold maxLen; omega
          case k4 => omega
          case k5 => omega
          intro v8 w8 own8 hg8 _
          have S8 : ScAt w8 q p r (at_ + (i + 1)) := (hg8.block q (heap_lt S3) (fun e => by have := own_ge row3 q e.symm; omega)).trans S3
          have t8 : LkL.Twin q q w w8 := by
            refine ⟨hg8.os.trans t3.os, hg8.tape.trans t3.tape, hg8.output.trans t3.output, Nat.le_trans t3.size hg8.size, fun k hk h1 h2 => ?_⟩
            exact (hg8.block k (by omega) (fun e => by have := own_ge row3 k e.symm; omega)).trans (t3.block k hk h1 h2)
          rw [← hlen0h.out, ← hcells.out] at own8
          obtain ⟨V8, c8, rfl, _⟩ := own_form own8
          clear hg8 hcs hr3 row3 S3 t3
          go_wp2_with fail
          go_roundw
          case rel => exact ⟨i + 1, r, by omega, by go_num, hlg1, S8, own8, t8⟩
          case measure => simp [intOf]; omega
    · have hkd : decide ((i : Int) < (nb : Int)) = false := decide_eq_false (by omega)
      have hie : i = nb := by omega
      have hlg2 := hlg.out
      rw [hie, hfull.out] at hlg2
      obtain rfl := hie
      have hlg3 : Hid (Lg X (s ++ b.data.toList) (s ++ b.data.toList).length node) := hlg2
      clear hlg hlg2
      go_wp2_with fail
      go_ret
      exact ⟨_, node, rfl, hrow, hS, hlg3.out, tw⟩
end Go.Proofs.YtdeeeechdlcdbaaGreat.ScF
