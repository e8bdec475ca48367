/- The walk of trie.New. -/
import Derived.Test.YtdeeeechdlcdbaaTrC
set_option linter.unusedSimpArgs false
set_option linter.unusedVariables false
namespace Go.Proofs.Ytdeeeechdlcdbaa.TrD
open Go Go.RowKit Go.Proofs.Ytdeeeechdlcdbaa.Base Go.Proofs.Ytdeeeechdlcdbaa.DiA Go.Proofs.Ytdeeeechdlcdbaa.DiB Go.Proofs.Ytdeeeechdlcdbaa.DiC Go.Proofs.Ytdeeeechdlcdbaa.DiD Go.Proofs.Ytdeeeechdlcdbaa.TrP Go.Proofs.Ytdeeeechdlcdbaa.TrM Go.Proofs.Ytdeeeechdlcdbaa.TrA Go.Proofs.Ytdeeeechdlcdbaa.TrB Go.Proofs.Ytdeeeechdlcdbaa.TrC
def lookY (p : Nat) (s : ByteArray) (c : Int) (a j L g cp mp : Nat) (x : Nat) (i : Nat) (v : Value) (W : World) : Prop := match i with
  | 0 => v = .pointer (some ⟨p, 0, none⟩)
  | 1 => v = .pointer (some ⟨p, 0, none⟩)
  | 2 => v = .pointer (some ⟨p, 0, none⟩)
  | 3 => v = .slice (some ⟨g, 0, none⟩) L cp
  | 4 => v = .int .i64 (a : Int)
  | 5 => v = .pointer (some ⟨g, a * 3, none⟩)
  | 6 => v = .pointer (some ⟨g, a * 3 + 2, none⟩)
  | 7 => v = .map (some mp)
  | 8 => v = .string s
  | 9 => v = .int .i64 (j : Int)
  | 10 => v = .int .u8 c
  | 11 => v = .tuple #[.int .i64 (x : Int), .bool true]
  | 12 => v = .tuple #[.int .i64 (x : Int), .bool true]
  | 13 => v = .int .i64 (x : Int)
  | 14 => v = .bool true
  | 15 => v = .int .i64 (x : Int)
  | 16 => v = .bool true
  | _ => True
def lookN (p : Nat) (s : ByteArray) (c : Int) (a j L g cp mp : Nat) (i : Nat) (v : Value) (W : World) : Prop := match i with
  | 0 => v = .pointer (some ⟨p, 0, none⟩)
  | 1 => v = .pointer (some ⟨p, 0, none⟩)
  | 2 => v = .pointer (some ⟨p, 0, none⟩)
  | 3 => v = .slice (some ⟨g, 0, none⟩) L cp
  | 4 => v = .int .i64 (a : Int)
  | 5 => v = .pointer (some ⟨g, a * 3, none⟩)
  | 6 => v = .pointer (some ⟨g, a * 3 + 2, none⟩)
  | 7 => v = .map (some mp)
  | 8 => v = .string s
  | 9 => v = .int .i64 (j : Int)
  | 10 => v = .int .u8 c
  | 11 => v = .tuple #[.int .i64 0, .bool false]
  | 12 => v = .tuple #[.int .i64 0, .bool false]
  | 13 => v = .int .i64 0
  | 14 => v = .bool false
  | 15 => v = .int .i64 0
  | 16 => v = .bool false
  | _ => True
def putV (p : Nat) (s : ByteArray) (c : Int) (a j L g cp mp : Nat) (x : Nat) (i : Nat) (v : Value) (W : World) : Prop := match i with
  | 0 => v = .pointer (some ⟨p, 0, none⟩)
  | 1 => v = .pointer (some ⟨p, 0, none⟩)
  | 2 => v = .pointer (some ⟨p, 0, none⟩)
  | 3 => v = .slice (some ⟨g, 0, none⟩) L cp
  | 4 => v = .int .i64 (a : Int)
  | 5 => v = .pointer (some ⟨g, a * 3, none⟩)
  | 6 => v = .pointer (some ⟨g, a * 3 + 2, none⟩)
  | 7 => v = .map (some mp)
  | 8 => v = .string s
  | 9 => v = .int .i64 (j : Int)
  | 10 => v = .int .u8 c
  | 11 => v = .int .i64 (x : Int)
  | _ => True

/-- Behind trie.New. -/
def TriePost (w : World) (zs : List ByteArray) (e : Ending) (w' : World) : Prop := Below w.heap.size w w' ∧
  ∃ p N m, e = .returned (.pointer (some ⟨p, 0, none⟩)) ∧ TrieAt w.heap.size w' p N m ∧ N.map (·.p) = build zs zs.length ∧ N.length ≤ 1 + total zs
theorem byte_get (s : ByteArray) (j : Nat) (h : j < s.size) : ((s[j]).toNat : Int) = TrP.byteOf s j := by
  have hl : j < s.data.toList.length := by rw [← size_list]; exact h
  unfold TrP.byteOf
  rw [List.getD_eq_getElem?_getD, List.getElem?_eq_getElem hl, Array.getElem_toList]
  rfl
theorem getD_of {N : List Nd} {S : List Pn} {a : Nat} {nd : Nd} (hN : N.map (·.p) = S) (h : N[a]? = some nd) : S.getD a noPn = nd.p := by
  rw [List.getD_eq_getElem?_getD, ← hN, List.getElem?_map, h]; rfl
theorem walk_some {S : List Pn} {s : ByteArray} {j : Nat} {x : Nat} (h : ((walkS S s j).1.getD (walkS S s j).2 noPn).sons (TrP.byteOf s j) = some x) : walkS S s (j + 1) = ((walkS S s j).1, x) := by
  show TrP.step (walkS S s j) s j = _
  unfold TrP.step
  rw [h]
theorem walk_none {S : List Pn} {s : ByteArray} {j : Nat} (h : ((walkS S s j).1.getD (walkS S s j).2 noPn).sons (TrP.byteOf s j) = none) : walkS S s (j + 1) = (((walkS S s j).1 ++ [newPn s j]).modify (walkS S s j).2 (setSon (TrP.byteOf s j) (walkS S s j).1.length), (walkS S s j).1.length) := by
  show TrP.step (walkS S s j) s j = _
  unfold TrP.step
  rw [h]
theorem drew_below {w W : World} (h : W = { w with drawn := w.drawn + 1 }) : Below w.heap.size w W := by
  subst h
  exact ⟨rfl, rfl, rfl, Nat.le_refl _, fun _ _ => rfl⟩
theorem row_frozen {B p m : Nat} {N : List Nd} {w : World} (h : TrieAt B w p N m) {g cp i : Nat} (hc : w.cell? ⟨p, 0, none⟩ = some (.slice (some ⟨g, 0, none⟩) N.length cp)) : w.frozen? ⟨g, i, none⟩ = false := by
  obtain ⟨v, hv, hr⟩ := h.row
  have hvv : v = .slice (some ⟨g, 0, none⟩) N.length cp := by
    have := cell_of (i := 0) hv rfl
    rw [hc] at this
    exact (Option.some.inj this).symm
  subst hvv
  exact World.ownsRow.frozenAt hr i
theorem total_le {zs : List ByteArray} {k : Nat} : total (zs.take k) ≤ total zs := total_take_le zs k
set_option maxRecDepth 20000 in
set_option maxHeartbeats 4000000 in
theorem new_any (Bd q : Nat) (zs : List ByteArray) (w : World) (hd : DictAt Bd w q zs) (hlen : zs.length ≤ 1000) (htot : total zs ≤ 2000) :
    Calls Try.prog 29 #[.pointer (some ⟨q, 0, none⟩)] w fun e w' => TriePost w zs e w' := by
  have t0 : TrieAt w.heap.size (w.alloc (.cells #[.slice none 0 0] 101)) w.heap.size [] 0 := ⟨Nat.le_refl _, ⟨_, heap_new w _, World.ownsRow_nil _ _ _ _⟩, (fun nd h => by cases h), List.nodup_nil⟩
  have ha0 := add_any t0 (by simp) (by simp) ⟨#[]⟩
  have hda := hd.below (balloc (Below.refl w.heap.size w) (.cells #[.slice none 0 0] 101))
  go_enter Try.func29, Try.ntmps29
  go_wp2_with fail
  refine ha0.mono ?_
  rintro e w1 ⟨rfl, bel1, kp1, mp1, t1⟩
  have hd1 : DictAt Bd w1 q zs := by
    obtain ⟨v, h1, h2⟩ := hd
    have b1 : Below w.heap.size w w1 := Below.trans (balloc (Below.refl _ _) _) bel1
    exact ⟨v, heap_below b1 h1, own_below h2 b1⟩
  clear ha0 t0 hda hd kp1
  have b1 : Below w.heap.size w w1 := Below.trans (balloc (Below.refl _ _) _) bel1
  clear bel1
  go_wp2_with fail
  refine (all_any Bd q zs w1 hd1 hlen).mono ?_
  rintro e w2 ⟨bel2, V, cp0, rfl, hown2⟩
  have b2 := b1.trans (bel2.mono b1.size)
  have t2 := t1.below bel2
  clear t1 hd1 b1 bel2
  obtain ⟨n, hn⟩ : ∃ n, n = zs.length := ⟨_, rfl⟩
  rw [← hn] at hown2 hlen ⊢
  have hnh : Hid (n = zs.length) := hn
  clear hn
  go_wp2_with fail
  go_loopw [19] (fun i wx => ∃ k : Nat, k ≤ n ∧ i = .int .i64 k ∧ Below w.heap.size w wx ∧ wx.ownsRow w1.heap.size 9 1 (.slice V n cp0) n (zs.map Value.string) ∧ ∃ N m, TrieAt w.heap.size wx w.heap.size N m ∧ Hid (N.map (·.p) = build zs k) ∧ m + 1 ≤ N.length ∧ N.length ≤ 1 + total (zs.take k)) (fun i _ => n - (intOf i).toNat)
  case atStart => exact ⟨0, Nat.zero_le _, rfl, b2, hown2, _, 0, t2, rfl, by simp, by simp [total]⟩
  case round =>
    obtain ⟨k, hk, rfl, belr, hown, N, m, ht, hN, hm, hNl⟩ := hrel
    have hn := hnh.out
    by_cases hlt : k < n
    · obtain ⟨V', cp', hve, hs⟩ := own_cells hown (by omega)
      injection hve with hve _ hve2
      subst hve hve2
      obtain ⟨b, off, rfl, _, hc⟩ := hs (by omega)
      have hcell := hc k (by omega)
      have htk := total_succ (zs := zs) (k := k) (by omega)
      have htl := total_take_le zs (k + 1)
      have hbk : Hid (build zs (k + 1) = addS (build zs k) (zs.getD k ByteArray.empty) k) := rfl
      have hgood := build_good zs k
      generalize zs.getD k ByteArray.empty = s at *
      clear hc hs
      have hT : Hid (total (zs.take (k + 1)) = total (zs.take k) + s.size) := htk
      have hTb : total (zs.take k) + s.size ≤ 2000 := by omega
      clear htk htl hn
      go_wp2_with fail
      go_loopw [6, 26] (fun av i wx => ∃ (j a : Nat), j ≤ s.size ∧ i = .int .i64 j ∧ av = .int .i64 a ∧ Hid (a = (walkS (build zs k) s j).2) ∧ Below w.heap.size w wx ∧ wx.ownsRow w1.heap.size 9 1 (.slice (some ⟨b, off, none⟩) n cp0) n (zs.map Value.string) ∧ ∃ N m, TrieAt w.heap.size wx w.heap.size N m ∧ Hid (N.map (·.p) = (walkS (build zs k) s j).1) ∧ m + 1 ≤ N.length ∧ N.length ≤ 1 + total (zs.take k) + j) (fun _ i _ => s.size - (intOf i).toNat)
      case atStart => exact ⟨0, 0, Nat.zero_le _, rfl, rfl, rfl, belr, hown, N, m, ht, hN, hm, by omega⟩
      case round =>
        obtain ⟨j, a, hj, rfl, rfl, ha, belx, hownx, N', m', htx, hNx, hmx, hlx⟩ := hrel
        obtain ⟨_, wg2, _, _, _⟩ := walk_good hgood s j hj
        have hal : a < N'.length := by
          rw [ha.out]
          have e := congrArg List.length hNx.out
          rw [List.length_map] at e
          rw [e]; exact wg2
        have hnd : N'[a]? = some N'[a] := List.getElem?_eq_getElem hal
        generalize N'[a] = nd at hnd
        have hgd := getD_of hNx.out hnd
        rw [ha.out] at hgd
        clear wg2 hcell hgood ht hN hm hNl belr hown
        by_cases hj2 : j < s.size
        · have hcr := byteOf_range s j
          have hbj := byte_get s j hj2
          have hY := @walk_some (build zs k) s j
          have hNo := @walk_none (build zs k) s j
          rw [hgd] at hY hNo
          generalize TrP.byteOf s j = c at hcr hbj hY hNo
          have hmp := (htx.maps nd (List.mem_of_getElem? hnd)).2
          obtain ⟨g, cp, c0, _, _, c3⟩ := htx.node hnd
          clear hgd
          have hai : (a : Int) < (N'.length : Int) := by omega
          cases hfx : nd.p.sons c with
          | some x =>
          have hw := hY hfx
          have hax : Hid (x = (walkS (build zs k) s (j + 1)).2) := by show x = _; rw [hw]
          have hNn : Hid (N'.map (·.p) = (walkS (build zs k) s (j + 1)).1) := by show N'.map (·.p) = _; rw [hw]; exact hNx.out
          have hlook : ∀ W : World, W = { wr with drawn := wr.drawn + 1 } → (Instr.lookup 104 (.map (some nd.mp)) (.int .u8 c) true).run Try.prog W = .ok (.tuple #[.int .i64 (x : Int), .bool true]) W := by
            intro W hW
            have h := MapAt.look (show MapAt W m' nd.mp nd.p.sons from hmp.below (drew_below hW)) hcr
            rw [hfx] at h
            exact h
          clear hw hY hNo hfx hmp hcr ha hNx hnd
          go_wp2_with fail
          refine Reg.wp_region_lists (fun W W' => Hid (W' = W)) (lookY w.heap.size s c a j N'.length g cp nd.mp x)
            [some 30, some 31, some 32, some 33, some 34, some 35, some 36, some 37, some 38, some 39, some 40, some 41, some 29, some 42, some 43, some 8, some 9]
            [[], [0], [1], [2], [], [3, 4], [5], [6], [], [], [8, 9], [7, 10], [11], [12], [12], [13, 0, 1, 2, 3, 4, 5, 6, 7, 8, 9, 10, 11, 12, 13], [14, 15, 0, 1, 2, 3, 4, 5, 6, 7, 8, 9, 10, 11, 12, 13, 14, 15]]
            (by kernel_rfl) (by kernel_rfl) (by kernel_rfl) (fun _ => Lib.hid rfl) (fun _ _ _ h k => Lib.hid (k.out.trans h.out)) ?_ ?_ ?_
          · intro i v W W' h k
            unfold lookY at h ⊢
            split at h <;> first | exact h
          · refine ⟨?_, ?_, ?_, ?_, ?_, ?_, ?_, ?_, ?_, ?_, ?_, ?_, ?_, ?_, ?_, ?_, ?_, trivial⟩
            · intro vals W K hR hV hK
              simp only [Reg.putS, List.foldl, List.headD, List.tail, List.getD_cons_zero, List.getD_cons_succ, Act.put, List.setIfInBounds_toArray, List.set_cons_zero, List.set_cons_succ] at hK ⊢
              go_simp
              first
                | exact hK _ _ (Lib.hid rfl) rfl
                | (rw [if_pos (by omega)]; exact hK _ _ (Lib.hid rfl) rfl)
                | (rw [dif_pos (by omega)]; exact hK _ _ (Lib.hid rfl) rfl)
                | (rw [if_neg (by omega)]; exact hK _ _ (Lib.hid rfl) rfl)
            · intro vals W K hR hV hK
              have d0 := hV 0 (by simp)
              simp only [lookY] at d0
              simp only [Reg.putS, List.foldl, List.headD, List.tail, List.getD_cons_zero, List.getD_cons_succ, Act.put, List.setIfInBounds_toArray, List.set_cons_zero, List.set_cons_succ, d0] at hK ⊢
              go_simp
              first
                | exact hK _ _ (Lib.hid rfl) rfl
                | (rw [if_pos (by omega)]; exact hK _ _ (Lib.hid rfl) rfl)
                | (rw [dif_pos (by omega)]; exact hK _ _ (Lib.hid rfl) rfl)
                | (rw [if_neg (by omega)]; exact hK _ _ (Lib.hid rfl) rfl)
            · intro vals W K hR hV hK
              have d1 := hV 1 (by simp)
              simp only [lookY] at d1
              simp only [Reg.putS, List.foldl, List.headD, List.tail, List.getD_cons_zero, List.getD_cons_succ, Act.put, List.setIfInBounds_toArray, List.set_cons_zero, List.set_cons_succ, d1] at hK ⊢
              go_simp
              first
                | exact hK _ _ (Lib.hid rfl) rfl
                | (rw [if_pos (by omega)]; exact hK _ _ (Lib.hid rfl) rfl)
                | (rw [dif_pos (by omega)]; exact hK _ _ (Lib.hid rfl) rfl)
                | (rw [if_neg (by omega)]; exact hK _ _ (Lib.hid rfl) rfl)
            · intro vals W K hR hV hK
              have d2 := hV 2 (by simp)
              simp only [lookY] at d2
              simp only [Reg.putS, List.foldl, List.headD, List.tail, List.getD_cons_zero, List.getD_cons_succ, Act.put, List.setIfInBounds_toArray, List.set_cons_zero, List.set_cons_succ, d2] at hK ⊢
              have hcl : W.cell? ⟨w.heap.size, 0, none⟩ = some (.slice (some ⟨g, 0, none⟩) N'.length cp) := by rw [hR.out]; exact c0
              go_simp
              first
                | exact hK _ _ (Lib.hid rfl) rfl
                | (rw [if_pos (by omega)]; exact hK _ _ (Lib.hid rfl) rfl)
                | (rw [dif_pos (by omega)]; exact hK _ _ (Lib.hid rfl) rfl)
                | (rw [if_neg (by omega)]; exact hK _ _ (Lib.hid rfl) rfl)
            · intro vals W K hR hV hK
              simp only [Reg.putS, List.foldl, List.headD, List.tail, List.getD_cons_zero, List.getD_cons_succ, Act.put, List.setIfInBounds_toArray, List.set_cons_zero, List.set_cons_succ] at hK ⊢
              go_simp
              first
                | exact hK _ _ (Lib.hid rfl) rfl
                | (rw [if_pos (by omega)]; exact hK _ _ (Lib.hid rfl) rfl)
                | (rw [dif_pos (by omega)]; exact hK _ _ (Lib.hid rfl) rfl)
                | (rw [if_neg (by omega)]; exact hK _ _ (Lib.hid rfl) rfl)
            · intro vals W K hR hV hK
              have d3 := hV 3 (by simp)
              simp only [lookY] at d3
              have d4 := hV 4 (by simp)
              simp only [lookY] at d4
              simp only [Reg.putS, List.foldl, List.headD, List.tail, List.getD_cons_zero, List.getD_cons_succ, Act.put, List.setIfInBounds_toArray, List.set_cons_zero, List.set_cons_succ, d3, d4] at hK ⊢
              go_simp
              first
                | exact hK _ _ (Lib.hid rfl) rfl
                | (rw [if_pos (by omega)]; exact hK _ _ (Lib.hid rfl) rfl)
                | (rw [dif_pos (by omega)]; exact hK _ _ (Lib.hid rfl) rfl)
                | (rw [if_neg (by omega)]; exact hK _ _ (Lib.hid rfl) rfl)
            · intro vals W K hR hV hK
              have d5 := hV 5 (by simp)
              simp only [lookY] at d5
              simp only [Reg.putS, List.foldl, List.headD, List.tail, List.getD_cons_zero, List.getD_cons_succ, Act.put, List.setIfInBounds_toArray, List.set_cons_zero, List.set_cons_succ, d5] at hK ⊢
              go_simp
              first
                | exact hK _ _ (Lib.hid rfl) rfl
                | (rw [if_pos (by omega)]; exact hK _ _ (Lib.hid rfl) rfl)
                | (rw [dif_pos (by omega)]; exact hK _ _ (Lib.hid rfl) rfl)
                | (rw [if_neg (by omega)]; exact hK _ _ (Lib.hid rfl) rfl)
            · intro vals W K hR hV hK
              have d6 := hV 6 (by simp)
              simp only [lookY] at d6
              simp only [Reg.putS, List.foldl, List.headD, List.tail, List.getD_cons_zero, List.getD_cons_succ, Act.put, List.setIfInBounds_toArray, List.set_cons_zero, List.set_cons_succ, d6] at hK ⊢
              have hcl : W.cell? ⟨g, a * 3 + 2, none⟩ = some (.map (some nd.mp)) := by rw [hR.out]; exact c3
              go_simp
              first
                | exact hK _ _ (Lib.hid rfl) rfl
                | (rw [if_pos (by omega)]; exact hK _ _ (Lib.hid rfl) rfl)
                | (rw [dif_pos (by omega)]; exact hK _ _ (Lib.hid rfl) rfl)
                | (rw [if_neg (by omega)]; exact hK _ _ (Lib.hid rfl) rfl)
            · intro vals W K hR hV hK
              simp only [Reg.putS, List.foldl, List.headD, List.tail, List.getD_cons_zero, List.getD_cons_succ, Act.put, List.setIfInBounds_toArray, List.set_cons_zero, List.set_cons_succ] at hK ⊢
              go_simp
              first
                | exact hK _ _ (Lib.hid rfl) rfl
                | (rw [if_pos (by omega)]; exact hK _ _ (Lib.hid rfl) rfl)
                | (rw [dif_pos (by omega)]; exact hK _ _ (Lib.hid rfl) rfl)
                | (rw [if_neg (by omega)]; exact hK _ _ (Lib.hid rfl) rfl)
            · intro vals W K hR hV hK
              simp only [Reg.putS, List.foldl, List.headD, List.tail, List.getD_cons_zero, List.getD_cons_succ, Act.put, List.setIfInBounds_toArray, List.set_cons_zero, List.set_cons_succ] at hK ⊢
              go_simp
              first
                | exact hK _ _ (Lib.hid rfl) rfl
                | (rw [if_pos (by omega)]; exact hK _ _ (Lib.hid rfl) rfl)
                | (rw [dif_pos (by omega)]; exact hK _ _ (Lib.hid rfl) rfl)
                | (rw [if_neg (by omega)]; exact hK _ _ (Lib.hid rfl) rfl)
            · intro vals W K hR hV hK
              have d8 := hV 8 (by simp)
              simp only [lookY] at d8
              have d9 := hV 9 (by simp)
              simp only [lookY] at d9
              simp only [Reg.putS, List.foldl, List.headD, List.tail, List.getD_cons_zero, List.getD_cons_succ, Act.put, List.setIfInBounds_toArray, List.set_cons_zero, List.set_cons_succ, d8, d9] at hK ⊢
              go_simp
              first
                | exact hK _ _ (Lib.hid rfl) rfl
                | (rw [if_pos (by omega)]; exact hK _ _ (Lib.hid rfl) rfl)
                | (rw [dif_pos (by omega)]; exact hK _ _ (Lib.hid rfl) rfl)
                | (rw [if_neg (by omega)]; exact hK _ _ (Lib.hid rfl) rfl)
            · intro vals W K hR hV hK
              have d7 := hV 7 (by simp)
              simp only [lookY] at d7
              have d10 := hV 10 (by simp)
              simp only [lookY] at d10
              simp only [Reg.putS, List.foldl, List.headD, List.tail, List.getD_cons_zero, List.getD_cons_succ, Act.put, List.setIfInBounds_toArray, List.set_cons_zero, List.set_cons_succ, d7, d10] at hK ⊢
              have hlk := hlook W hR.out
              go_simp
              first
                | exact hK _ _ (Lib.hid rfl) rfl
                | (rw [if_pos (by omega)]; exact hK _ _ (Lib.hid rfl) rfl)
                | (rw [dif_pos (by omega)]; exact hK _ _ (Lib.hid rfl) rfl)
                | (rw [if_neg (by omega)]; exact hK _ _ (Lib.hid rfl) rfl)
            · intro vals W K hR hV hK
              have d11 := hV 11 (by simp)
              simp only [lookY] at d11
              simp only [Reg.putS, List.foldl, List.headD, List.tail, List.getD_cons_zero, List.getD_cons_succ, Act.put, List.setIfInBounds_toArray, List.set_cons_zero, List.set_cons_succ, d11] at hK ⊢
              go_simp
              first
                | exact hK _ _ (Lib.hid rfl) rfl
                | (rw [if_pos (by omega)]; exact hK _ _ (Lib.hid rfl) rfl)
                | (rw [dif_pos (by omega)]; exact hK _ _ (Lib.hid rfl) rfl)
                | (rw [if_neg (by omega)]; exact hK _ _ (Lib.hid rfl) rfl)
            · intro vals W K hR hV hK
              have d12 := hV 12 (by simp)
              simp only [lookY] at d12
              simp only [Reg.putS, List.foldl, List.headD, List.tail, List.getD_cons_zero, List.getD_cons_succ, Act.put, List.setIfInBounds_toArray, List.set_cons_zero, List.set_cons_succ, d12] at hK ⊢
              go_simp
              first
                | exact hK _ _ (Lib.hid rfl) rfl
                | (rw [if_pos (by omega)]; exact hK _ _ (Lib.hid rfl) rfl)
                | (rw [dif_pos (by omega)]; exact hK _ _ (Lib.hid rfl) rfl)
                | (rw [if_neg (by omega)]; exact hK _ _ (Lib.hid rfl) rfl)
            · intro vals W K hR hV hK
              have d12 := hV 12 (by simp)
              simp only [lookY] at d12
              simp only [Reg.putS, List.foldl, List.headD, List.tail, List.getD_cons_zero, List.getD_cons_succ, Act.put, List.setIfInBounds_toArray, List.set_cons_zero, List.set_cons_succ, d12] at hK ⊢
              go_simp
              first
                | exact hK _ _ (Lib.hid rfl) rfl
                | (rw [if_pos (by omega)]; exact hK _ _ (Lib.hid rfl) rfl)
                | (rw [dif_pos (by omega)]; exact hK _ _ (Lib.hid rfl) rfl)
                | (rw [if_neg (by omega)]; exact hK _ _ (Lib.hid rfl) rfl)
            · intro vals W K hR hV hK
              have d0 := hV 0 (by simp)
              simp only [lookY] at d0
              have d1 := hV 1 (by simp)
              simp only [lookY] at d1
              have d2 := hV 2 (by simp)
              simp only [lookY] at d2
              have d3 := hV 3 (by simp)
              simp only [lookY] at d3
              have d4 := hV 4 (by simp)
              simp only [lookY] at d4
              have d5 := hV 5 (by simp)
              simp only [lookY] at d5
              have d6 := hV 6 (by simp)
              simp only [lookY] at d6
              have d7 := hV 7 (by simp)
              simp only [lookY] at d7
              have d8 := hV 8 (by simp)
              simp only [lookY] at d8
              have d9 := hV 9 (by simp)
              simp only [lookY] at d9
              have d10 := hV 10 (by simp)
              simp only [lookY] at d10
              have d11 := hV 11 (by simp)
              simp only [lookY] at d11
              have d12 := hV 12 (by simp)
              simp only [lookY] at d12
              have d13 := hV 13 (by simp)
              simp only [lookY] at d13
              simp only [Reg.putS, List.foldl, List.headD, List.tail, List.getD_cons_zero, List.getD_cons_succ, Act.put, List.setIfInBounds_toArray, List.set_cons_zero, List.set_cons_succ, d0, d1, d2, d3, d4, d5, d6, d7, d8, d9, d10, d11, d12, d13] at hK ⊢
              go_simp
              first
                | exact hK _ _ (Lib.hid rfl) rfl
                | (rw [if_pos (by omega)]; exact hK _ _ (Lib.hid rfl) rfl)
                | (rw [dif_pos (by omega)]; exact hK _ _ (Lib.hid rfl) rfl)
                | (rw [if_neg (by omega)]; exact hK _ _ (Lib.hid rfl) rfl)
            · intro vals W K hR hV hK
              have d0 := hV 0 (by simp)
              simp only [lookY] at d0
              have d1 := hV 1 (by simp)
              simp only [lookY] at d1
              have d2 := hV 2 (by simp)
              simp only [lookY] at d2
              have d3 := hV 3 (by simp)
              simp only [lookY] at d3
              have d4 := hV 4 (by simp)
              simp only [lookY] at d4
              have d5 := hV 5 (by simp)
              simp only [lookY] at d5
              have d6 := hV 6 (by simp)
              simp only [lookY] at d6
              have d7 := hV 7 (by simp)
              simp only [lookY] at d7
              have d8 := hV 8 (by simp)
              simp only [lookY] at d8
              have d9 := hV 9 (by simp)
              simp only [lookY] at d9
              have d10 := hV 10 (by simp)
              simp only [lookY] at d10
              have d11 := hV 11 (by simp)
              simp only [lookY] at d11
              have d12 := hV 12 (by simp)
              simp only [lookY] at d12
              have d13 := hV 13 (by simp)
              simp only [lookY] at d13
              have d14 := hV 14 (by simp)
              simp only [lookY] at d14
              have d15 := hV 15 (by simp)
              simp only [lookY] at d15
              simp only [Reg.putS, List.foldl, List.headD, List.tail, List.getD_cons_zero, List.getD_cons_succ, Act.put, List.setIfInBounds_toArray, List.set_cons_zero, List.set_cons_succ, d0, d1, d2, d3, d4, d5, d6, d7, d8, d9, d10, d11, d12, d13, d14, d15] at hK ⊢
              go_simp
              first
                | exact hK _ _ (Lib.hid rfl) rfl
                | (rw [if_pos (by omega)]; exact hK _ _ (Lib.hid rfl) rfl)
                | (rw [dif_pos (by omega)]; exact hK _ _ (Lib.hid rfl) rfl)
                | (rw [if_neg (by omega)]; exact hK _ _ (Lib.hid rfl) rfl)
          · intro vals W hR hV
            rw [show List.range (List.length [some 30, some 31, some 32, some 33, some 34, some 35, some 36, some 37, some 38, some 39, some 40, some 41, some 29, some 42, some 43, some 8, some 9]) = [0, 1, 2, 3, 4, 5, 6, 7, 8, 9, 10, 11, 12, 13, 14, 15, 16] from rfl]
            have d0 := hV 0 (by decide)
            simp only [lookY] at d0
            have d1 := hV 1 (by decide)
            simp only [lookY] at d1
            have d2 := hV 2 (by decide)
            simp only [lookY] at d2
            have d3 := hV 3 (by decide)
            simp only [lookY] at d3
            have d4 := hV 4 (by decide)
            simp only [lookY] at d4
            have d5 := hV 5 (by decide)
            simp only [lookY] at d5
            have d6 := hV 6 (by decide)
            simp only [lookY] at d6
            have d7 := hV 7 (by decide)
            simp only [lookY] at d7
            have d8 := hV 8 (by decide)
            simp only [lookY] at d8
            have d9 := hV 9 (by decide)
            simp only [lookY] at d9
            have d10 := hV 10 (by decide)
            simp only [lookY] at d10
            have d11 := hV 11 (by decide)
            simp only [lookY] at d11
            have d12 := hV 12 (by decide)
            simp only [lookY] at d12
            have d13 := hV 13 (by decide)
            simp only [lookY] at d13
            have d14 := hV 14 (by decide)
            simp only [lookY] at d14
            have d15 := hV 15 (by decide)
            simp only [lookY] at d15
            have d16 := hV 16 (by decide)
            simp only [lookY] at d16
            clear hV
            simp only [Reg.putS, List.foldl, List.getD_cons_zero, List.getD_cons_succ, Act.put, List.setIfInBounds_toArray, List.set_cons_zero, List.set_cons_succ, d0, d1, d2, d3, d4, d5, d6, d7, d8, d9, d10, d11, d12, d13, d14, d15, d16]
            clear d0 d1 d2 d3 d4 d5 d6 d7 d8 d9 d10 d11 d12 d13 d14 d15 d16
            have hWb := drew_below hR.out
            have htW := htx.below hWb
            have hoW := own_below hownx hWb
            have bW := belx.trans (hWb.mono belx.size)
            clear hR hlook c0 c3 htx hownx belx hWb
            go_wp2_with fail
            go_roundw
            case rel => exact ⟨j + 1, x, by omega, by go_num, rfl, hax, bW, hoW, N', m', htW, hNn, hmx, by omega⟩
            case measure => simp [intOf]; omega

          | none =>
          have hw := hNo hfx
          have hL : N'.length = (walkS (build zs k) s j).1.length := by
            have e := congrArg List.length hNx.out
            rw [List.length_map] at e
            exact e
          have hax : Hid (N'.length = (walkS (build zs k) s (j + 1)).2) := by show N'.length = _; rw [hw, hL]
          have hNn : Hid ((N'.map (·.p) ++ [newPn s j]).modify a (setSon c N'.length) = (walkS (build zs k) s (j + 1)).1) := by
            show (N'.map (·.p) ++ [newPn s j]).modify a (setSon c N'.length) = _
            rw [hw, hL, hNx.out, ha.out]
          have hlook : ∀ W : World, W = { wr with drawn := wr.drawn + 1 } → (Instr.lookup 104 (.map (some nd.mp)) (.int .u8 c) true).run Try.prog W = .ok (.tuple #[.int .i64 0, .bool false]) W := by
            intro W hW
            have h := MapAt.look (show MapAt W m' nd.mp nd.p.sons from hmp.below (drew_below hW)) hcr
            rw [hfx] at h
            exact h
          clear hw hY hNo hfx hmp hL ha hNx
          go_wp2_with fail
          refine Reg.wp_region_lists (fun W W' => Hid (W' = W)) (lookN w.heap.size s c a j N'.length g cp nd.mp)
            [some 30, some 31, some 32, some 33, some 34, some 35, some 36, some 37, some 38, some 39, some 40, some 41, some 29, some 42, some 43, some 8, some 9]
            [[], [0], [1], [2], [], [3, 4], [5], [6], [], [], [8, 9], [7, 10], [11], [12], [12], [13, 0, 1, 2, 3, 4, 5, 6, 7, 8, 9, 10, 11, 12, 13], [14, 15, 0, 1, 2, 3, 4, 5, 6, 7, 8, 9, 10, 11, 12, 13, 14, 15]]
            (by kernel_rfl) (by kernel_rfl) (by kernel_rfl) (fun _ => Lib.hid rfl) (fun _ _ _ h k => Lib.hid (k.out.trans h.out)) ?_ ?_ ?_
          · intro i v W W' h k
            unfold lookN at h ⊢
            split at h <;> first | exact h
          · refine ⟨?_, ?_, ?_, ?_, ?_, ?_, ?_, ?_, ?_, ?_, ?_, ?_, ?_, ?_, ?_, ?_, ?_, trivial⟩
            · intro vals W K hR hV hK
              simp only [Reg.putS, List.foldl, List.headD, List.tail, List.getD_cons_zero, List.getD_cons_succ, Act.put, List.setIfInBounds_toArray, List.set_cons_zero, List.set_cons_succ] at hK ⊢
              go_simp
              first
                | exact hK _ _ (Lib.hid rfl) rfl
                | (rw [if_pos (by omega)]; exact hK _ _ (Lib.hid rfl) rfl)
                | (rw [dif_pos (by omega)]; exact hK _ _ (Lib.hid rfl) rfl)
                | (rw [if_neg (by omega)]; exact hK _ _ (Lib.hid rfl) rfl)
            · intro vals W K hR hV hK
              have d0 := hV 0 (by simp)
              simp only [lookN] at d0
              simp only [Reg.putS, List.foldl, List.headD, List.tail, List.getD_cons_zero, List.getD_cons_succ, Act.put, List.setIfInBounds_toArray, List.set_cons_zero, List.set_cons_succ, d0] at hK ⊢
              go_simp
              first
                | exact hK _ _ (Lib.hid rfl) rfl
                | (rw [if_pos (by omega)]; exact hK _ _ (Lib.hid rfl) rfl)
                | (rw [dif_pos (by omega)]; exact hK _ _ (Lib.hid rfl) rfl)
                | (rw [if_neg (by omega)]; exact hK _ _ (Lib.hid rfl) rfl)
            · intro vals W K hR hV hK
              have d1 := hV 1 (by simp)
              simp only [lookN] at d1
              simp only [Reg.putS, List.foldl, List.headD, List.tail, List.getD_cons_zero, List.getD_cons_succ, Act.put, List.setIfInBounds_toArray, List.set_cons_zero, List.set_cons_succ, d1] at hK ⊢
              go_simp
              first
                | exact hK _ _ (Lib.hid rfl) rfl
                | (rw [if_pos (by omega)]; exact hK _ _ (Lib.hid rfl) rfl)
                | (rw [dif_pos (by omega)]; exact hK _ _ (Lib.hid rfl) rfl)
                | (rw [if_neg (by omega)]; exact hK _ _ (Lib.hid rfl) rfl)
            · intro vals W K hR hV hK
              have d2 := hV 2 (by simp)
              simp only [lookN] at d2
              simp only [Reg.putS, List.foldl, List.headD, List.tail, List.getD_cons_zero, List.getD_cons_succ, Act.put, List.setIfInBounds_toArray, List.set_cons_zero, List.set_cons_succ, d2] at hK ⊢
              have hcl : W.cell? ⟨w.heap.size, 0, none⟩ = some (.slice (some ⟨g, 0, none⟩) N'.length cp) := by rw [hR.out]; exact c0
              go_simp
              first
                | exact hK _ _ (Lib.hid rfl) rfl
                | (rw [if_pos (by omega)]; exact hK _ _ (Lib.hid rfl) rfl)
                | (rw [dif_pos (by omega)]; exact hK _ _ (Lib.hid rfl) rfl)
                | (rw [if_neg (by omega)]; exact hK _ _ (Lib.hid rfl) rfl)
            · intro vals W K hR hV hK
              simp only [Reg.putS, List.foldl, List.headD, List.tail, List.getD_cons_zero, List.getD_cons_succ, Act.put, List.setIfInBounds_toArray, List.set_cons_zero, List.set_cons_succ] at hK ⊢
              go_simp
              first
                | exact hK _ _ (Lib.hid rfl) rfl
                | (rw [if_pos (by omega)]; exact hK _ _ (Lib.hid rfl) rfl)
                | (rw [dif_pos (by omega)]; exact hK _ _ (Lib.hid rfl) rfl)
                | (rw [if_neg (by omega)]; exact hK _ _ (Lib.hid rfl) rfl)
            · intro vals W K hR hV hK
              have d3 := hV 3 (by simp)
              simp only [lookN] at d3
              have d4 := hV 4 (by simp)
              simp only [lookN] at d4
              simp only [Reg.putS, List.foldl, List.headD, List.tail, List.getD_cons_zero, List.getD_cons_succ, Act.put, List.setIfInBounds_toArray, List.set_cons_zero, List.set_cons_succ, d3, d4] at hK ⊢
              go_simp
              first
                | exact hK _ _ (Lib.hid rfl) rfl
                | (rw [if_pos (by omega)]; exact hK _ _ (Lib.hid rfl) rfl)
                | (rw [dif_pos (by omega)]; exact hK _ _ (Lib.hid rfl) rfl)
                | (rw [if_neg (by omega)]; exact hK _ _ (Lib.hid rfl) rfl)
            · intro vals W K hR hV hK
              have d5 := hV 5 (by simp)
              simp only [lookN] at d5
              simp only [Reg.putS, List.foldl, List.headD, List.tail, List.getD_cons_zero, List.getD_cons_succ, Act.put, List.setIfInBounds_toArray, List.set_cons_zero, List.set_cons_succ, d5] at hK ⊢
              go_simp
              first
                | exact hK _ _ (Lib.hid rfl) rfl
                | (rw [if_pos (by omega)]; exact hK _ _ (Lib.hid rfl) rfl)
                | (rw [dif_pos (by omega)]; exact hK _ _ (Lib.hid rfl) rfl)
                | (rw [if_neg (by omega)]; exact hK _ _ (Lib.hid rfl) rfl)
            · intro vals W K hR hV hK
              have d6 := hV 6 (by simp)
              simp only [lookN] at d6
              simp only [Reg.putS, List.foldl, List.headD, List.tail, List.getD_cons_zero, List.getD_cons_succ, Act.put, List.setIfInBounds_toArray, List.set_cons_zero, List.set_cons_succ, d6] at hK ⊢
              have hcl : W.cell? ⟨g, a * 3 + 2, none⟩ = some (.map (some nd.mp)) := by rw [hR.out]; exact c3
              go_simp
              first
                | exact hK _ _ (Lib.hid rfl) rfl
                | (rw [if_pos (by omega)]; exact hK _ _ (Lib.hid rfl) rfl)
                | (rw [dif_pos (by omega)]; exact hK _ _ (Lib.hid rfl) rfl)
                | (rw [if_neg (by omega)]; exact hK _ _ (Lib.hid rfl) rfl)
            · intro vals W K hR hV hK
              simp only [Reg.putS, List.foldl, List.headD, List.tail, List.getD_cons_zero, List.getD_cons_succ, Act.put, List.setIfInBounds_toArray, List.set_cons_zero, List.set_cons_succ] at hK ⊢
              go_simp
              first
                | exact hK _ _ (Lib.hid rfl) rfl
                | (rw [if_pos (by omega)]; exact hK _ _ (Lib.hid rfl) rfl)
                | (rw [dif_pos (by omega)]; exact hK _ _ (Lib.hid rfl) rfl)
                | (rw [if_neg (by omega)]; exact hK _ _ (Lib.hid rfl) rfl)
            · intro vals W K hR hV hK
              simp only [Reg.putS, List.foldl, List.headD, List.tail, List.getD_cons_zero, List.getD_cons_succ, Act.put, List.setIfInBounds_toArray, List.set_cons_zero, List.set_cons_succ] at hK ⊢
              go_simp
              first
                | exact hK _ _ (Lib.hid rfl) rfl
                | (rw [if_pos (by omega)]; exact hK _ _ (Lib.hid rfl) rfl)
                | (rw [dif_pos (by omega)]; exact hK _ _ (Lib.hid rfl) rfl)
                | (rw [if_neg (by omega)]; exact hK _ _ (Lib.hid rfl) rfl)
            · intro vals W K hR hV hK
              have d8 := hV 8 (by simp)
              simp only [lookN] at d8
              have d9 := hV 9 (by simp)
              simp only [lookN] at d9
              simp only [Reg.putS, List.foldl, List.headD, List.tail, List.getD_cons_zero, List.getD_cons_succ, Act.put, List.setIfInBounds_toArray, List.set_cons_zero, List.set_cons_succ, d8, d9] at hK ⊢
              go_simp
              first
                | exact hK _ _ (Lib.hid rfl) rfl
                | (rw [if_pos (by omega)]; exact hK _ _ (Lib.hid rfl) rfl)
                | (rw [dif_pos (by omega)]; exact hK _ _ (Lib.hid rfl) rfl)
                | (rw [if_neg (by omega)]; exact hK _ _ (Lib.hid rfl) rfl)
            · intro vals W K hR hV hK
              have d7 := hV 7 (by simp)
              simp only [lookN] at d7
              have d10 := hV 10 (by simp)
              simp only [lookN] at d10
              simp only [Reg.putS, List.foldl, List.headD, List.tail, List.getD_cons_zero, List.getD_cons_succ, Act.put, List.setIfInBounds_toArray, List.set_cons_zero, List.set_cons_succ, d7, d10] at hK ⊢
              have hlk := hlook W hR.out
              go_simp
              first
                | exact hK _ _ (Lib.hid rfl) rfl
                | (rw [if_pos (by omega)]; exact hK _ _ (Lib.hid rfl) rfl)
                | (rw [dif_pos (by omega)]; exact hK _ _ (Lib.hid rfl) rfl)
                | (rw [if_neg (by omega)]; exact hK _ _ (Lib.hid rfl) rfl)
            · intro vals W K hR hV hK
              have d11 := hV 11 (by simp)
              simp only [lookN] at d11
              simp only [Reg.putS, List.foldl, List.headD, List.tail, List.getD_cons_zero, List.getD_cons_succ, Act.put, List.setIfInBounds_toArray, List.set_cons_zero, List.set_cons_succ, d11] at hK ⊢
              go_simp
              first
                | exact hK _ _ (Lib.hid rfl) rfl
                | (rw [if_pos (by omega)]; exact hK _ _ (Lib.hid rfl) rfl)
                | (rw [dif_pos (by omega)]; exact hK _ _ (Lib.hid rfl) rfl)
                | (rw [if_neg (by omega)]; exact hK _ _ (Lib.hid rfl) rfl)
            · intro vals W K hR hV hK
              have d12 := hV 12 (by simp)
              simp only [lookN] at d12
              simp only [Reg.putS, List.foldl, List.headD, List.tail, List.getD_cons_zero, List.getD_cons_succ, Act.put, List.setIfInBounds_toArray, List.set_cons_zero, List.set_cons_succ, d12] at hK ⊢
              go_simp
              first
                | exact hK _ _ (Lib.hid rfl) rfl
                | (rw [if_pos (by omega)]; exact hK _ _ (Lib.hid rfl) rfl)
                | (rw [dif_pos (by omega)]; exact hK _ _ (Lib.hid rfl) rfl)
                | (rw [if_neg (by omega)]; exact hK _ _ (Lib.hid rfl) rfl)
            · intro vals W K hR hV hK
              have d12 := hV 12 (by simp)
              simp only [lookN] at d12
              simp only [Reg.putS, List.foldl, List.headD, List.tail, List.getD_cons_zero, List.getD_cons_succ, Act.put, List.setIfInBounds_toArray, List.set_cons_zero, List.set_cons_succ, d12] at hK ⊢
              go_simp
              first
                | exact hK _ _ (Lib.hid rfl) rfl
                | (rw [if_pos (by omega)]; exact hK _ _ (Lib.hid rfl) rfl)
                | (rw [dif_pos (by omega)]; exact hK _ _ (Lib.hid rfl) rfl)
                | (rw [if_neg (by omega)]; exact hK _ _ (Lib.hid rfl) rfl)
            · intro vals W K hR hV hK
              have d0 := hV 0 (by simp)
              simp only [lookN] at d0
              have d1 := hV 1 (by simp)
              simp only [lookN] at d1
              have d2 := hV 2 (by simp)
              simp only [lookN] at d2
              have d3 := hV 3 (by simp)
              simp only [lookN] at d3
              have d4 := hV 4 (by simp)
              simp only [lookN] at d4
              have d5 := hV 5 (by simp)
              simp only [lookN] at d5
              have d6 := hV 6 (by simp)
              simp only [lookN] at d6
              have d7 := hV 7 (by simp)
              simp only [lookN] at d7
              have d8 := hV 8 (by simp)
              simp only [lookN] at d8
              have d9 := hV 9 (by simp)
              simp only [lookN] at d9
              have d10 := hV 10 (by simp)
              simp only [lookN] at d10
              have d11 := hV 11 (by simp)
              simp only [lookN] at d11
              have d12 := hV 12 (by simp)
              simp only [lookN] at d12
              have d13 := hV 13 (by simp)
              simp only [lookN] at d13
              simp only [Reg.putS, List.foldl, List.headD, List.tail, List.getD_cons_zero, List.getD_cons_succ, Act.put, List.setIfInBounds_toArray, List.set_cons_zero, List.set_cons_succ, d0, d1, d2, d3, d4, d5, d6, d7, d8, d9, d10, d11, d12, d13] at hK ⊢
              go_simp
              first
                | exact hK _ _ (Lib.hid rfl) rfl
                | (rw [if_pos (by omega)]; exact hK _ _ (Lib.hid rfl) rfl)
                | (rw [dif_pos (by omega)]; exact hK _ _ (Lib.hid rfl) rfl)
                | (rw [if_neg (by omega)]; exact hK _ _ (Lib.hid rfl) rfl)
            · intro vals W K hR hV hK
              have d0 := hV 0 (by simp)
              simp only [lookN] at d0
              have d1 := hV 1 (by simp)
              simp only [lookN] at d1
              have d2 := hV 2 (by simp)
              simp only [lookN] at d2
              have d3 := hV 3 (by simp)
              simp only [lookN] at d3
              have d4 := hV 4 (by simp)
              simp only [lookN] at d4
              have d5 := hV 5 (by simp)
              simp only [lookN] at d5
              have d6 := hV 6 (by simp)
              simp only [lookN] at d6
              have d7 := hV 7 (by simp)
              simp only [lookN] at d7
              have d8 := hV 8 (by simp)
              simp only [lookN] at d8
              have d9 := hV 9 (by simp)
              simp only [lookN] at d9
              have d10 := hV 10 (by simp)
              simp only [lookN] at d10
              have d11 := hV 11 (by simp)
              simp only [lookN] at d11
              have d12 := hV 12 (by simp)
              simp only [lookN] at d12
              have d13 := hV 13 (by simp)
              simp only [lookN] at d13
              have d14 := hV 14 (by simp)
              simp only [lookN] at d14
              have d15 := hV 15 (by simp)
              simp only [lookN] at d15
              simp only [Reg.putS, List.foldl, List.headD, List.tail, List.getD_cons_zero, List.getD_cons_succ, Act.put, List.setIfInBounds_toArray, List.set_cons_zero, List.set_cons_succ, d0, d1, d2, d3, d4, d5, d6, d7, d8, d9, d10, d11, d12, d13, d14, d15] at hK ⊢
              go_simp
              first
                | exact hK _ _ (Lib.hid rfl) rfl
                | (rw [if_pos (by omega)]; exact hK _ _ (Lib.hid rfl) rfl)
                | (rw [dif_pos (by omega)]; exact hK _ _ (Lib.hid rfl) rfl)
                | (rw [if_neg (by omega)]; exact hK _ _ (Lib.hid rfl) rfl)
          · intro vals W hR hV
            rw [show List.range (List.length [some 30, some 31, some 32, some 33, some 34, some 35, some 36, some 37, some 38, some 39, some 40, some 41, some 29, some 42, some 43, some 8, some 9]) = [0, 1, 2, 3, 4, 5, 6, 7, 8, 9, 10, 11, 12, 13, 14, 15, 16] from rfl]
            have d0 := hV 0 (by decide)
            simp only [lookN] at d0
            have d1 := hV 1 (by decide)
            simp only [lookN] at d1
            have d2 := hV 2 (by decide)
            simp only [lookN] at d2
            have d3 := hV 3 (by decide)
            simp only [lookN] at d3
            have d4 := hV 4 (by decide)
            simp only [lookN] at d4
            have d5 := hV 5 (by decide)
            simp only [lookN] at d5
            have d6 := hV 6 (by decide)
            simp only [lookN] at d6
            have d7 := hV 7 (by decide)
            simp only [lookN] at d7
            have d8 := hV 8 (by decide)
            simp only [lookN] at d8
            have d9 := hV 9 (by decide)
            simp only [lookN] at d9
            have d10 := hV 10 (by decide)
            simp only [lookN] at d10
            have d11 := hV 11 (by decide)
            simp only [lookN] at d11
            have d12 := hV 12 (by decide)
            simp only [lookN] at d12
            have d13 := hV 13 (by decide)
            simp only [lookN] at d13
            have d14 := hV 14 (by decide)
            simp only [lookN] at d14
            have d15 := hV 15 (by decide)
            simp only [lookN] at d15
            have d16 := hV 16 (by decide)
            simp only [lookN] at d16
            clear hV
            simp only [Reg.putS, List.foldl, List.getD_cons_zero, List.getD_cons_succ, Act.put, List.setIfInBounds_toArray, List.set_cons_zero, List.set_cons_succ, d0, d1, d2, d3, d4, d5, d6, d7, d8, d9, d10, d11, d12, d13, d14, d15, d16]
            clear d0 d1 d2 d3 d4 d5 d6 d7 d8 d9 d10 d11 d12 d13 d14 d15 d16
            have hWb := drew_below hR.out
            have htW := htx.below hWb
            have hoW := own_below hownx hWb
            have bW := belx.trans (hWb.mono belx.size)
            have hwj : IntKind.i64.wrap ((j : Int) + 1) = (j : Int) + 1 := by rw [IntKind.wrap_i64]; omega
            have hj1 : (j : Int) + 1 ≤ (s.size : Int) := by omega
            have hadd := add_any htW bW.size (by omega) (s.extract 0 (j + 1))
            clear hR hlook c0 c3 htx hownx belx hWb
            go_wp2_with fail
            refine hadd.mono ?_
            rintro e w4 ⟨rfl, b40, k4, mp4, t4⟩
            have b4 := bW.trans b40
            have own4 := own_keeps hoW k4 (by decide) (by decide)
            have nd4 : (N' ++ [newNd (s.extract 0 (j + 1)) mp4])[a]? = some nd := by rw [List.getElem?_append_left hal]; exact hnd
            clear hadd b40 k4 htW hoW bW
            obtain ⟨g, cp, c0, _, _, c3⟩ := t4.node nd4
            simp only [List.length_append, List.length_singleton] at c0
            have hla : (a : Int) < (N'.length : Int) + 1 := by omega
            go_wp2_with fail

            refine Reg.wp_region_last 12 (fun W W' => Hid (W' = W)) (putV w.heap.size s c a j (N'.length + 1) g cp nd.mp N'.length)
              [some 52, some 53, some 54, some 55, some 56, some 57, some 58, some 59, some 60, some 61, some 62, some 63, none]
              [[], [0], [1], [2], [], [3, 4], [5], [6], [], [], [8, 9], [], [7, 10, 11, 0, 1, 2, 3, 4, 5, 6, 7, 8, 9, 10, 11]]
              (by kernel_rfl) (by kernel_rfl) (by kernel_rfl) (by kernel_rfl) (by kernel_rfl) (fun _ => Lib.hid rfl) (fun _ _ _ h k => Lib.hid (k.out.trans h.out)) ?_ ?_ ?_
            · intro i v W W' h k
              unfold putV at h ⊢
              split at h <;> first | exact h
            · refine ⟨?_, ?_, ?_, ?_, ?_, ?_, ?_, ?_, ?_, ?_, ?_, ?_, trivial⟩
              · intro vals W K hR hV hK
                simp only [Reg.putS, List.foldl, List.headD, List.tail, List.getD_cons_zero, List.getD_cons_succ, Act.put, List.setIfInBounds_toArray, List.set_cons_zero, List.set_cons_succ] at hK ⊢
                go_simp
                first
                  | exact hK _ _ (Lib.hid rfl) rfl
                  | (rw [if_pos (by omega)]; exact hK _ _ (Lib.hid rfl) rfl)
                  | (rw [dif_pos (by omega)]; exact hK _ _ (Lib.hid rfl) rfl)
                  | (rw [if_neg (by omega)]; exact hK _ _ (Lib.hid rfl) rfl)
              · intro vals W K hR hV hK
                have d0 := hV 0 (by simp)
                simp only [putV] at d0
                simp only [Reg.putS, List.foldl, List.headD, List.tail, List.getD_cons_zero, List.getD_cons_succ, Act.put, List.setIfInBounds_toArray, List.set_cons_zero, List.set_cons_succ, d0] at hK ⊢
                go_simp
                first
                  | exact hK _ _ (Lib.hid rfl) rfl
                  | (rw [if_pos (by omega)]; exact hK _ _ (Lib.hid rfl) rfl)
                  | (rw [dif_pos (by omega)]; exact hK _ _ (Lib.hid rfl) rfl)
                  | (rw [if_neg (by omega)]; exact hK _ _ (Lib.hid rfl) rfl)
              · intro vals W K hR hV hK
                have d1 := hV 1 (by simp)
                simp only [putV] at d1
                simp only [Reg.putS, List.foldl, List.headD, List.tail, List.getD_cons_zero, List.getD_cons_succ, Act.put, List.setIfInBounds_toArray, List.set_cons_zero, List.set_cons_succ, d1] at hK ⊢
                go_simp
                first
                  | exact hK _ _ (Lib.hid rfl) rfl
                  | (rw [if_pos (by omega)]; exact hK _ _ (Lib.hid rfl) rfl)
                  | (rw [dif_pos (by omega)]; exact hK _ _ (Lib.hid rfl) rfl)
                  | (rw [if_neg (by omega)]; exact hK _ _ (Lib.hid rfl) rfl)
              · intro vals W K hR hV hK
                have d2 := hV 2 (by simp)
                simp only [putV] at d2
                simp only [Reg.putS, List.foldl, List.headD, List.tail, List.getD_cons_zero, List.getD_cons_succ, Act.put, List.setIfInBounds_toArray, List.set_cons_zero, List.set_cons_succ, d2] at hK ⊢
                have hcl : W.cell? ⟨w.heap.size, 0, none⟩ = some (.slice (some ⟨g, 0, none⟩) (N'.length + 1) cp) := by rw [hR.out]; exact c0
                go_simp
                first
                  | exact hK _ _ (Lib.hid rfl) rfl
                  | (rw [if_pos (by omega)]; exact hK _ _ (Lib.hid rfl) rfl)
                  | (rw [dif_pos (by omega)]; exact hK _ _ (Lib.hid rfl) rfl)
                  | (rw [if_neg (by omega)]; exact hK _ _ (Lib.hid rfl) rfl)
              · intro vals W K hR hV hK
                simp only [Reg.putS, List.foldl, List.headD, List.tail, List.getD_cons_zero, List.getD_cons_succ, Act.put, List.setIfInBounds_toArray, List.set_cons_zero, List.set_cons_succ] at hK ⊢
                go_simp
                first
                  | exact hK _ _ (Lib.hid rfl) rfl
                  | (rw [if_pos (by omega)]; exact hK _ _ (Lib.hid rfl) rfl)
                  | (rw [dif_pos (by omega)]; exact hK _ _ (Lib.hid rfl) rfl)
                  | (rw [if_neg (by omega)]; exact hK _ _ (Lib.hid rfl) rfl)
              · intro vals W K hR hV hK
                have d3 := hV 3 (by simp)
                simp only [putV] at d3
                have d4 := hV 4 (by simp)
                simp only [putV] at d4
                simp only [Reg.putS, List.foldl, List.headD, List.tail, List.getD_cons_zero, List.getD_cons_succ, Act.put, List.setIfInBounds_toArray, List.set_cons_zero, List.set_cons_succ, d3, d4] at hK ⊢
                go_simp
                first
                  | exact hK _ _ (Lib.hid rfl) rfl
                  | (rw [if_pos (by omega)]; exact hK _ _ (Lib.hid rfl) rfl)
                  | (rw [dif_pos (by omega)]; exact hK _ _ (Lib.hid rfl) rfl)
                  | (rw [if_neg (by omega)]; exact hK _ _ (Lib.hid rfl) rfl)
              · intro vals W K hR hV hK
                have d5 := hV 5 (by simp)
                simp only [putV] at d5
                simp only [Reg.putS, List.foldl, List.headD, List.tail, List.getD_cons_zero, List.getD_cons_succ, Act.put, List.setIfInBounds_toArray, List.set_cons_zero, List.set_cons_succ, d5] at hK ⊢
                go_simp
                first
                  | exact hK _ _ (Lib.hid rfl) rfl
                  | (rw [if_pos (by omega)]; exact hK _ _ (Lib.hid rfl) rfl)
                  | (rw [dif_pos (by omega)]; exact hK _ _ (Lib.hid rfl) rfl)
                  | (rw [if_neg (by omega)]; exact hK _ _ (Lib.hid rfl) rfl)
              · intro vals W K hR hV hK
                have d6 := hV 6 (by simp)
                simp only [putV] at d6
                simp only [Reg.putS, List.foldl, List.headD, List.tail, List.getD_cons_zero, List.getD_cons_succ, Act.put, List.setIfInBounds_toArray, List.set_cons_zero, List.set_cons_succ, d6] at hK ⊢
                have hcl : W.cell? ⟨g, a * 3 + 2, none⟩ = some (.map (some nd.mp)) := by rw [hR.out]; exact c3
                go_simp
                first
                  | exact hK _ _ (Lib.hid rfl) rfl
                  | (rw [if_pos (by omega)]; exact hK _ _ (Lib.hid rfl) rfl)
                  | (rw [dif_pos (by omega)]; exact hK _ _ (Lib.hid rfl) rfl)
                  | (rw [if_neg (by omega)]; exact hK _ _ (Lib.hid rfl) rfl)
              · intro vals W K hR hV hK
                simp only [Reg.putS, List.foldl, List.headD, List.tail, List.getD_cons_zero, List.getD_cons_succ, Act.put, List.setIfInBounds_toArray, List.set_cons_zero, List.set_cons_succ] at hK ⊢
                go_simp
                first
                  | exact hK _ _ (Lib.hid rfl) rfl
                  | (rw [if_pos (by omega)]; exact hK _ _ (Lib.hid rfl) rfl)
                  | (rw [dif_pos (by omega)]; exact hK _ _ (Lib.hid rfl) rfl)
                  | (rw [if_neg (by omega)]; exact hK _ _ (Lib.hid rfl) rfl)
              · intro vals W K hR hV hK
                simp only [Reg.putS, List.foldl, List.headD, List.tail, List.getD_cons_zero, List.getD_cons_succ, Act.put, List.setIfInBounds_toArray, List.set_cons_zero, List.set_cons_succ] at hK ⊢
                go_simp
                first
                  | exact hK _ _ (Lib.hid rfl) rfl
                  | (rw [if_pos (by omega)]; exact hK _ _ (Lib.hid rfl) rfl)
                  | (rw [dif_pos (by omega)]; exact hK _ _ (Lib.hid rfl) rfl)
                  | (rw [if_neg (by omega)]; exact hK _ _ (Lib.hid rfl) rfl)
              · intro vals W K hR hV hK
                have d8 := hV 8 (by simp)
                simp only [putV] at d8
                have d9 := hV 9 (by simp)
                simp only [putV] at d9
                simp only [Reg.putS, List.foldl, List.headD, List.tail, List.getD_cons_zero, List.getD_cons_succ, Act.put, List.setIfInBounds_toArray, List.set_cons_zero, List.set_cons_succ, d8, d9] at hK ⊢
                go_simp
                first
                  | exact hK _ _ (Lib.hid rfl) rfl
                  | (rw [if_pos (by omega)]; exact hK _ _ (Lib.hid rfl) rfl)
                  | (rw [dif_pos (by omega)]; exact hK _ _ (Lib.hid rfl) rfl)
                  | (rw [if_neg (by omega)]; exact hK _ _ (Lib.hid rfl) rfl)
              · intro vals W K hR hV hK
                simp only [Reg.putS, List.foldl, List.headD, List.tail, List.getD_cons_zero, List.getD_cons_succ, Act.put, List.setIfInBounds_toArray, List.set_cons_zero, List.set_cons_succ] at hK ⊢
                go_simp
                first
                  | exact hK _ _ (Lib.hid rfl) rfl
                  | (rw [if_pos (by omega)]; exact hK _ _ (Lib.hid rfl) rfl)
                  | (rw [dif_pos (by omega)]; exact hK _ _ (Lib.hid rfl) rfl)
                  | (rw [if_neg (by omega)]; exact hK _ _ (Lib.hid rfl) rfl)
            · intro vals W o ho hR hV
              simp only [List.getElem?_toArray, List.getElem?_cons_succ, List.getElem?_cons_zero, Option.some.injEq] at ho
              subst ho
              have d0 := hV 0 (by decide)
              simp only [putV] at d0
              have d1 := hV 1 (by decide)
              simp only [putV] at d1
              have d2 := hV 2 (by decide)
              simp only [putV] at d2
              have d3 := hV 3 (by decide)
              simp only [putV] at d3
              have d4 := hV 4 (by decide)
              simp only [putV] at d4
              have d5 := hV 5 (by decide)
              simp only [putV] at d5
              have d6 := hV 6 (by decide)
              simp only [putV] at d6
              have d7 := hV 7 (by decide)
              simp only [putV] at d7
              have d8 := hV 8 (by decide)
              simp only [putV] at d8
              have d9 := hV 9 (by decide)
              simp only [putV] at d9
              have d10 := hV 10 (by decide)
              simp only [putV] at d10
              have d11 := hV 11 (by decide)
              simp only [putV] at d11
              unfold Reg.LastStep
              rw [show List.range 12 = [0, 1, 2, 3, 4, 5, 6, 7, 8, 9, 10, 11] from rfl]
              clear hV
              simp only [Reg.putS, List.foldl, List.getD_cons_zero, List.getD_cons_succ, Act.put, List.setIfInBounds_toArray, List.set_cons_zero, List.set_cons_succ, d0, d1, d2, d3, d4, d5, d6, d7, d8, d9, d10, d11]
              clear d0 d1 d2 d3 d4 d5 d6 d7 d8 d9 d10 d11
              have hWb := drew_below hR.out
              have htW := t4.below hWb
              have hoW := own_below own4 hWb
              have bW := b4.trans (hWb.mono b4.size)
              obtain ⟨w5, hrun, hm5, hg5⟩ := ((htW.maps nd (List.mem_of_getElem? nd4)).2).put (by unfold maxLen; omega) hcr (x := N'.length) (by omega)
              obtain ⟨t5, k5, b5⟩ := put_set htW nd4 hm5 hg5
              have own5 := own_keeps hoW k5 (by decide) (by decide)
              have bel5 := bW.trans b5
              clear hR c0 c3 t4 own4 b4 hWb htW hoW bW hm5 hg5 k5 b5
              go_simp
              clear hrun
              go_wp2_with fail
              go_roundw
              case rel => exact ⟨j + 1, N'.length, by omega, by go_num, rfl, hax, bel5, own5, _, m' + 1, t5, by rw [map_modify, List.map_append]; exact hNn, by simp; omega, by simp; omega⟩
              case measure => simp [intOf]; omega

        · have hjs : j = s.size := by omega
          have hNb : Hid ((N'.modify a (setNd (setWord (k : Int)))).map (·.p) = build zs (k + 1)) := by
            show _ = _
            rw [map_modify, hbk.out, hNx.out, ha.out, hjs]; rfl
          obtain ⟨g, cp, c0, _, c2, _⟩ := htx.node hnd
          obtain ⟨q1, q2, q3⟩ := word_set htx hal c0 (k : Int)
          have own5 := own_keeps hownx q2 (by decide) (by decide)
          have bel5 := belx.trans q3
          have hfz : wr.frozen? ⟨g, a * 3 + 1, none⟩ = false := row_frozen htx c0
          have hai : (a : Int) < (N'.length : Int) := by omega
          have hTl : N'.length ≤ 1 + total (zs.take (k + 1)) := by rw [hT.out]; omega
          clear hgd hNx ha htx hownx belx q2 q3 hnd hjs hbk hT
          go_wp2_with fail
          go_roundw
          case rel => exact ⟨k + 1, by omega, by go_num, bel5, own5, _, m', q1, hNb, by rw [List.length_modify]; exact hmx, by rw [List.length_modify]; exact hTl⟩
          case measure => simp [intOf]; omega
    · have hkn : k = n := by omega
      subst hkn
      have hNf : N.map (·.p) = build zs zs.length := by rw [← hn]; exact hN.out
      have hNf2 : Hid (N.map (·.p) = build zs zs.length) := hNf
      have hlf : N.length ≤ 1 + total zs := Nat.le_trans hNl (by have := total_take_le zs k; omega)
      clear hn hnh hNf hN hown hown2 hNl
      go_wp2_with fail
      refine bodyPost_ret (v := .pointer (some ⟨w.heap.size, 0, none⟩)) ?_ rfl ⟨belr, _, N, m, rfl, ht, hNf2.out, hlf⟩
      simp [results, Try.results29, go_sem]
end Go.Proofs.Ytdeeeechdlcdbaa.TrD
