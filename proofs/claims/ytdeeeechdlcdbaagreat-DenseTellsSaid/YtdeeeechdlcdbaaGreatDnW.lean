/- The walk of dense.New: each node's row out of the row where one goes on. -/
import Derived.Test.YtdeeeechdlcdbaaGreatDnM
import Derived.Test.YtdeeeechdlcdbaaGreatTcP
import Derived.Laws.CopyOwn
import Derived.StillTailTactics
set_option linter.unusedVariables false
set_option linter.unusedSimpArgs false
namespace Go.Proofs.YtdeeeechdlcdbaaGreat.DnW
open Go Go.RowKit Go.Lib Go.Proofs Go.Proofs.YtdeeeechdlcdbaaGreat Go.Proofs.YtdeeeechdlcdbaaGreat.Base Go.Proofs.YtdeeeechdlcdbaaGreat.DiA Go.Proofs.YtdeeeechdlcdbaaGreat.TrP Go.Proofs.YtdeeeechdlcdbaaGreat.TrM Go.Proofs.YtdeeeechdlcdbaaGreat.TrA Go.Proofs.YtdeeeechdlcdbaaGreat.TrQ Go.Proofs.YtdeeeechdlcdbaaGreat.TtP Go.Proofs.YtdeeeechdlcdbaaGreat.TcP Go.Proofs.YtdeeeechdlcdbaaGreat.TwA Go.Proofs.YtdeeeechdlcdbaaGreat.LkA Go.Proofs.YtdeeeechdlcdbaaGreat.LkP Go.Proofs.YtdeeeechdlcdbaaGreat.LkM Go.Proofs.YtdeeeechdlcdbaaGreat.LkL Go.Proofs.YtdeeeechdlcdbaaGreat.LkO Go.Proofs.YtdeeeechdlcdbaaGreat.LkQ Go.Proofs.YtdeeeechdlcdbaaGreat.LkN Go.Proofs.YtdeeeechdlcdbaaGreat.LkS Go.Proofs.YtdeeeechdlcdbaaGreat.ScP Go.Proofs.YtdeeeechdlcdbaaGreat.ScX Go.Proofs.YtdeeeechdlcdbaaGreat.RwA Go.Proofs.YtdeeeechdlcdbaaGreat.DnP Go.Proofs.YtdeeeechdlcdbaaGreat.DnM
theorem info3sz : (Tryz.prog.info? 3).map (·.size) = some 1 := by kernel_rfl
/-- A row's cells. -/
def rowC (row : List Nat) : Array Value := (row.map encN).toArray
theorem zer_row : zer 256 = rowC zeroRow := rfl
theorem own_of_cells {w : World} {B r : Nat} {row : List Nat} (hB : B ≤ r) (h : w.heap[r]? = some (.cells (rowC row) 3 (0, 0))) (hl : row.length = 256) : w.ownsRow B 3 1 (.slice (some ⟨r, 0, none⟩) 256 256) 256 (row.map encN) := by
  refine ⟨by simp [hl], .inr ⟨r, 256, rowC row, rfl, hB, h, Nat.le_refl _, by unfold maxLen; omega, by unfold rowC; simp [hl], ?_⟩⟩
  unfold rowC
  rw [List.take_of_length_le (by simp [hl])]
theorem nil_rebase {B B' g n : Nat} {w : World} (h : RowsV B g w (List.replicate n []) (List.replicate n (.slice none 0 0))) : RowsV B' g w (List.replicate n []) (List.replicate n (.slice none 0 0)) := by
  refine ⟨h.len, h.head, fun i hi => ?_, h.apart⟩
  rw [List.length_replicate] at hi
  have e1 : (List.replicate n (Value.slice none 0 0)).getD i undef = .slice none 0 0 := by
    rw [List.getD_eq_getElem?_getD, List.getElem?_replicate, if_pos hi]; rfl
  have e2 : (List.replicate n ([] : List Nat)).getD i [] = [] := by
    rw [List.getD_eq_getElem?_getD, List.getElem?_replicate, if_pos hi]; rfl
  rw [e1, e2]
  exact World.ownsRow_nil _ _ _ _
/-- Where the rows lie while they are laid. -/
structure Tab (w2 : World) (g : Nat) (X : List Pn) (k : Nat) (w : World) : Prop where
  tw : LkL.Twin g g w2 w
  rows : ∃ R, Rws w2.heap.size g w R ∧ TabIn X k R
theorem toI_len' (L : List Nat) : (toI L).length = L.length := by unfold toI; exact List.length_map _
theorem toI_at' {L : List Nat} {j : Nat} (hj : j < L.length) : (toI L).getD j 0 = (L.getD j 0 : Nat) := by
  unfold toI
  rw [List.getD_eq_getElem?_getD, List.getElem?_map, List.getElem?_eq_getElem hj, List.getD_eq_getElem?_getD, List.getElem?_eq_getElem hj]; rfl
/-- Behind New. -/
def DnPost (w : World) (p : Nat) (X : List Pn) (e : Ending) (w' : World) : Prop := Below w.heap.size w w' ∧ ∃ t g B R, e = .returned (.pointer (some ⟨t, 0, none⟩)) ∧ w.heap.size ≤ t ∧ DnAt B w' t p g R ∧ TabOk X R
set_option maxRecDepth 100000 in
set_option maxHeartbeats 8000000 in
theorem new_any {W0 w : World} {p : Nat} {zs : List ByteArray} {X : List Pn} (hl : Lx W0 p zs X) (bel0 : Below W0.heap.size W0 w) :
    Calls Tryz.prog 32 #[.pointer (some ⟨p, 0, none⟩)] w fun e w' => DnPost w p X e w' := by
  obtain ⟨Bl, px, mx, N, F, O, L, hlk0, hNX, hOk, hbig⟩ := hl.lk
  have hlk : LkAt Bl w p px N mx F O L := hlk0.below bel0
  have hXl : X.length = N.length := by rw [← hNX, List.length_map]
  obtain ⟨n, hn⟩ : ∃ n, N.length = n := ⟨_, rfl⟩
  have hXn : Hid (X.length = n) := hXl.trans hn
  have hNn : Hid (N.length = n) := hn
  have hT : Hid (Tr zs X) := hl.tr
  have hOkh : Hid (LkOk X F O L) := hOk
  have hNXh : Hid (N.map (·.p) = X) := hNX
  have cT := trie_any hlk
  have cl := len_any hlk.trie
  rw [hn] at cl hbig
  have hmk := make_rows (n := n) hbig
  have R0 := rows_made (B := w.heap.size) (n := n) (w := w) (Nat.le_refl _)
  obtain ⟨t, ht⟩ : ∃ t, t = w.heap.size + 1 := ⟨_, rfl⟩
  obtain ⟨g, hg⟩ : ∃ g, g = w.heap.size := ⟨_, rfl⟩
  obtain ⟨w1, hw1⟩ : ∃ w1, w1 = (w.alloc (.cells (nilRows n) 31)).alloc (.cells #[.pointer (some ⟨p, 0, none⟩), .slice (some ⟨g, 0, none⟩) n n] 99) := ⟨_, rfl⟩
  have bw0 : Below w.heap.size w w1 := by rw [hw1]; exact balloc (balloc (Below.refl _ _) _) _
  have hhead1 : w1.heap[t]? = some (.cells #[.pointer (some ⟨p, 0, none⟩), .slice (some ⟨g, 0, none⟩) n n] 99 (0, 0)) := by
    rw [hw1, ht]
    have := heap_new (w.alloc (.cells (nilRows n) 31)) (.cells #[.pointer (some ⟨p, 0, none⟩), .slice (some ⟨g, 0, none⟩) n n] 99)
    simpa using this
  have R1 : RowsV w.heap.size g w1 (List.replicate n []) (List.replicate n (.slice none 0 0)) := by
    rw [hg, hw1, ← hg]
    rw [← hg] at R0
    exact R0.below (balloc (Below.refl _ _) _)
  have cO := order_any (hlk.below bw0) (by rw [hn]; exact hbig)
  rw [hn] at cO
  have hlkh : Hid (LkAt Bl w p px N mx F O L) := hlk
  have hgt : g < t := by omega
  have htw1 : t < w1.heap.size := heap_lt hhead1
  have hgh : Hid (g = w.heap.size) := hg
  have hth : Hid (t = w.heap.size + 1) := ht
  have hR1 : Hid (RowsV w.heap.size g w1 (List.replicate n []) (List.replicate n (.slice none 0 0))) := R1
  have hh1 : Hid (w1.heap[t]? = some (.cells #[.pointer (some ⟨p, 0, none⟩), .slice (some ⟨g, 0, none⟩) n n] 99 (0, 0))) := hhead1
  clear hl bel0 hlk0 hlk hXl hn hOk hNX R0 R1 hhead1
  go_enter Tryz.func32, Tryz.ntmps32
  go_wp2_with fail
  refine cT.mono ?_
  rintro e w2 ⟨rfl, hw⟩
  rw [hw]
  clear cT hw w2
  go_wp2_with fail
  refine cl.mono ?_
  rintro e w2 ⟨rfl, hw⟩
  rw [hw]
  clear cl hw w2
  go_wp2_with fail
  rw [← ht, ← hg, ← hw1]
  clear hmk ht hg hw1
  refine cO.mono ?_
  rintro e w2 ⟨v, rfl, hrow, b2⟩
  have bel2 := bstep bw0 b2
  obtain ⟨hlL, Vo, cpo, rfl, hVo⟩ := row_at hrow
  have hbo := own_ge hrow
  have hn0 : 0 < n := by have := hT.out.good.pos; rw [hXn.out] at this; exact this
  have hLl : L.length = n := by rw [hOkh.out.ord, ord_length, hXn.out]
  obtain ⟨bo, oo, rfl, _, hco⟩ := hVo (by rw [toI_len']; omega)
  have hbog : bo ≠ g := by have := hbo bo rfl; omega
  have hbo2 : Hid (∀ j, j < n → w2.cell? ⟨bo, oo + j, none⟩ = some (.int .i64 (L.getD j 0 : Nat))) := fun j hj => by
    have := hco j (by rw [toI_len']; omega)
    rw [toI_at' (by omega)] at this
    exact this
  have hht : Hid (w2.heap[t]? = some (.cells #[.pointer (some ⟨p, 0, none⟩), .slice (some ⟨g, 0, none⟩) n n] 99 (0, 0))) := heap_below b2 hh1.out
  have htw2 : t < w2.heap.size := Nat.lt_of_lt_of_le htw1 b2.size
  have hT0 : Hid (Tab w2 g X 0 w2) := ⟨LkL.Twin.refl _ _ _, _, ⟨_, nil_rebase (hR1.out.below b2)⟩, tab_start (by rw [List.length_replicate, hXn.out])⟩
  have hgw2 : g < w2.heap.size := by omega
  have hLr : Hid (L = ordL (dep X) X.length) := hOkh.out.ord
  have hmk256 : ∀ W : World, (Instr.makeSlice 31 (.int .i64 256) (.int .i64 256)).run Tryz.prog W = .ok (.slice (some ⟨W.heap.size, 0, none⟩) 256 256) (W.alloc (.cells (zer 256) 3)) := fun W => make_run (n := 256) (by omega) W
  have hmkh : Hid (∀ W : World, (Instr.makeSlice 31 (.int .i64 256) (.int .i64 256)).run Tryz.prog W = .ok (.slice (some ⟨W.heap.size, 0, none⟩) 256 256) (W.alloc (.cells (zer 256) 3))) := hmk256
  clear cO hrow b2 hVo hbo hco hR1 hmk256 hlL
  go_wp2_with fail
  go_loopw [21] (fun s wr => ∃ q : Nat, q ≤ n ∧ s = .int .i64 q ∧ Tab w2 g X q wr) (fun s _ => n - (intOf s).toNat)
  case atStart => exact ⟨0, Nat.zero_le _, rfl, hT0.out⟩
  case round =>
    obtain ⟨q, hq, rfl, hTab⟩ := hrel
    obtain ⟨wr0, hwr0⟩ : ∃ x, x = wr := ⟨_, rfl⟩
    subst hwr0
    clear hT0
    have hwg : w.heap.size ≤ g := by rw [hgh.out]; exact Nat.le_refl _
    have belr : Below w.heap.size w wr0 := bel2.trans (hTab.tw.below bel2.size hwg hwg)
    by_cases hqlt : q < n
    · have hqd : decide ((q : Int) < (n : Int)) = true := decide_eq_true (by omega)
      have hqi : (q : Int) < (n : Int) := by omega
      have cL0 := hbo2.out q hqlt
      have cL : wr0.cell? ⟨bo, oo + q, none⟩ = some (.int .i64 (L.getD q 0 : Nat)) := by
        have hb := hTab.tw.block bo (World.block_lt_of_cell? w2 _ cL0) hbog hbog
        unfold World.cell? at cL0 ⊢
        rw [hb]; exact cL0
      have hqX : q < X.length := by rw [hXn.out]; exact hqlt
      obtain ⟨nd, hnd⟩ : ∃ nd, (ordL (dep X) X.length).getD q 0 = nd := ⟨_, rfl⟩
      have hndh : Hid ((ordL (dep X) X.length).getD q 0 = nd) := hnd
      have hndX : nd < X.length := by rw [← hnd]; exact ord_at hqX
      have hndn : nd < n := by rw [hXn.out] at hndX; exact hndX
      rw [hLr.out, hnd] at cL
      have hm256 := hmkh.out wr0
      have hr4 := heap_new wr0 (.cells (zer 256) 3)
      have b4 : Below wr0.heap.size wr0 (wr0.alloc (.cells (zer 256) 3)) := balloc (Below.refl _ _) _
      obtain ⟨w4, hw4⟩ : ∃ w4, w4 = wr0.alloc (.cells (zer 256) 3) := ⟨_, rfl⟩
      have hw4h : Hid (w4 = wr0.alloc (.cells (zer 256) 3)) := hw4
      rw [← hw4] at hr4 b4
      rw [zer_row] at hr4
      clear hnd cL0 hw4
      by_cases hz : nd = 0
      · have hnz : ((nd : Int) != 0) = false := by rw [hz]; rfl
        have hin : RowIn X nd [] zeroRow := by rw [hz]; exact row_zero hT.out
        clear hz
        go_wp2_with fail
        rw [← hw4h.out]
        obtain ⟨base, hbase⟩ : ∃ base, base = zeroRow := ⟨_, rfl⟩
        rw [← hbase] at hin hr4
        have hr5 := hr4
        have b5 := b4
        clear hbase hr4 b4 hm256 hw4h
        generalize w4 = w5 at hr5 b5 ⊢
        have hr5h : Hid (w5.heap[wr0.heap.size]? = some (.cells (rowC base) 3 (0, 0)) ∧ RowIn X nd [] base) := ⟨hr5, hin⟩
        have blr5 := belr.trans (b5.mono belr.size)
        have tw5 : Hid (LkL.Twin g g w2 w5) := (hTab.tw).trans (LkL.Twin.of_below b5)
        obtain ⟨LL, hLL⟩ : ∃ LL, sonsL (X.getD nd noPn).sons = LL := ⟨_, rfl⟩
        have hLLh : Hid (sonsL (X.getD nd noPn).sons = LL) := hLL
        have hlk5 := hlkh.out.below blr5
        have cT5 := trie_any hlk5
        have cSo := sons_call hlk5.trie (by rw [hNn.out]; exact hbig) hNXh.out nd hndX hLL
        have hLl : LL.length ≤ 256 := by rw [← hLL]; exact sonsL_len _
        clear hr5 hin hLL
        go_wp2_with fail
        refine cT5.mono ?_
        rintro e w6 ⟨rfl, hw⟩
        rw [hw]
        clear cT5 hw w6
        go_wp2_with fail
        refine cSo.mono ?_
        rintro e w6 ⟨Vs, cps, rfl, hVs, b6⟩
        have hh6 : Hid (w6.heap[wr0.heap.size]? = some (.cells (rowC base) 3 (0, 0))) := heap_below b6 hr5h.out.1
        have hin6 : Hid (RowIn X nd (LL.take 0) base) := by rw [List.take_zero]; exact hr5h.out.2
        have bel6 := blr5.trans (b6.mono blr5.size)
        have tw6 : Hid (LkL.Twin g g w2 w6) := tw5.out.trans (LkL.Twin.of_below b6)
        have b56 : Hid (Below w5.heap.size w5 w6) := b6
        have hrlt : wr0.heap.size < w5.heap.size := heap_lt hr5h.out.1
        obtain ⟨r, hr⟩ : ∃ r, r = wr0.heap.size := ⟨_, rfl⟩
        have hrh : Hid (r = wr0.heap.size) := hr
        rw [← hr] at hh6 hrlt ⊢
        have hgs : Hid (∀ gs, Vs = some ⟨gs, 0, none⟩ → 0 < LL.length → gs ≠ r) := fun gs hgs h0 => by
          obtain ⟨g', hg', hcs⟩ := hVs.out h0
          rw [hgs] at hg'
          injection hg' with hg'
          injection hg' with hg'
          subst hg'
          have h1 := hcs 0 h0
          rintro rfl
          have h2 := cell_of (i := 0) hh6.out (v := encN (base.getD 0 0)) (by
            have hl0 : 0 < base.length := by rw [hr5h.out.2.len]; decide
            unfold rowC
            rw [List.getElem?_toArray, List.getElem?_map, List.getElem?_eq_getElem hl0, List.getD_eq_getElem?_getD, List.getElem?_eq_getElem hl0]; rfl)
          rw [h2] at h1
          unfold encN at h1
          injection h1 with h1
          injection h1 with h1
          cases h1
        clear cSo hr blr5 b6 hlk5 hr5h
        go_wp2_with fail
        generalize hlln : LL.length = ll at *
        have hllh : Hid (LL.length = ll) := hlln
        clear hlln
        go_loopw [44] (fun s wr2 => ∃ (u : Nat) (row : List Nat), u ≤ ll ∧ s = .int .i64 u ∧ Hid (wr2.heap[r]? = some (.cells (rowC row) 3 (0, 0))) ∧ Hid (RowIn X nd (LL.take u) row) ∧ LkL.Twin r r w6 wr2) (fun s _ => ll - (intOf s).toNat)
        case atStart => exact ⟨0, base, Nat.zero_le _, rfl, hh6, hin6, LkL.Twin.refl _ _ _⟩
        case round =>
          obtain ⟨u, row, hu, rfl, hhr, hin, twu⟩ := hrel
          clear hh6 hin6
          have hw6r : w.heap.size ≤ r := by rw [hrh.out]; exact belr.size
          have belu := bel6.trans (twu.below bel6.size hw6r hw6r)
          have hlku := hlkh.out.below belu
          by_cases hult : u < ll
          · have hud : decide ((u : Int) < (ll : Int)) = true := decide_eq_true (by omega)
            have hui : (u : Int) < (ll : Int) := by omega
            obtain ⟨gs, rfl, hcs⟩ := hVs.out (by omega)
            have hgg := hgs.out gs rfl (by omega)
            have cc6 := hcs u hult
            have cc : wr.cell? ⟨gs, u, none⟩ = some (.int .u8 (LL.getD u 0)) := by
              have hb := twu.block gs (World.block_lt_of_cell? w6 _ cc6) hgg hgg
              unfold World.cell? at cc6 ⊢
              rw [hb]; exact cc6
            have huL : u < LL.length := by rw [hllh.out]; exact hult
            have hmem : LL.getD u 0 ∈ sonsL (X.getD nd noPn).sons := by
              rw [hLLh.out, List.getD_eq_getElem?_getD, List.getElem?_eq_getElem huL]; exact List.getElem_mem huL
            have htk : LL.take (u + 1) = LL.take u ++ [LL.getD u 0] := take_getD LL 0 huL
            obtain ⟨hc, hsome⟩ := mem_sonsL.1 hmem
            generalize LL.getD u 0 = c0 at cc htk hc hsome
            obtain ⟨c, rfl⟩ : ∃ c : Nat, c0 = (c : Int) := ⟨c0.toNat, by omega⟩
            obtain ⟨x, hx⟩ := Option.isSome_iff_exists.1 hsome
            have hc255 : c ≤ 255 := by omega
            have hci : (c : Int) < 256 := by omega
            have hrow := row_son hin.out hc255 hx
            rw [← htk] at hrow
            have hrowh : Hid (RowIn X nd (LL.take (u + 1)) (row.set c x)) := hrow
            have cT7 := trie_any hlku
            have cN := next_some hlku.trie (by rw [hNn.out]; exact hbig) hNXh.out hndX hc hx
            have hrl : row.length = 256 := hin.out.len
            have z1 : IntKind.i64.wrap ((u : Int) + 1) = (u : Int) + 1 := by rw [IntKind.wrap_i64]; omega
            have hset : Hid (∀ W : World, Below wr.heap.size wr W → (W.setCell ⟨r, c, none⟩ (.int .i64 (x : Int))).heap[r]? = some (.cells (rowC (row.set c x)) 3 (0, 0)) ∧ LkL.Twin r r w6 (W.setCell ⟨r, c, none⟩ (.int .i64 (x : Int))) ∧ W.cell? ⟨r, c, none⟩ = some (.int .i64 (row.getD c 0 : Nat)) ∧ W.frozen? ⟨r, c, none⟩ = false) := by
              intro W bW
              have hW := heap_below bW hhr.out
              refine ⟨?_, (twu.trans (LkL.Twin.of_below bW)).trans (LkL.Twin.of_set _ _ (.inl rfl)), ?_, frozen_of hW⟩
              · rw [heap_setN hW]
                unfold rowC
                rw [show (Value.int .i64 (x : Int)) = encN x from rfl, map_setN]
              · refine cell_of hW ?_
                have hl : c < row.length := by omega
                unfold rowC
                rw [List.getElem?_toArray, List.getElem?_map, List.getElem?_eq_getElem hl, List.getD_eq_getElem?_getD, List.getElem?_eq_getElem hl]; rfl
            clear hcs hgg cc6 hmem htk hc hsome hx huL hrow hlku hin hhr hrl
            go_wp2_with fail
            refine cT7.mono ?_
            rintro e w8 ⟨rfl, hw⟩
            rw [hw]
            clear cT7 hw w8
            go_wp2_with fail
            refine cN.mono ?_
            rintro e w8 ⟨rfl, b8⟩
            obtain ⟨s1, s2, s3, s4⟩ := hset.out w8 b8
            have s1h : Hid (_ = _) := s1
            have s2h : Hid (LkL.Twin r r w6 _) := s2
            clear cN cc hset s1 s2 b8 twu belu
            go_wp2_with fail
            go_roundw
            case rel => exact ⟨u + 1, _, by omega, by go_num, s1h, hrowh, s2h.out⟩
            case measure => simp [intOf]; omega
          · have hud : decide ((u : Int) < (ll : Int)) = false := decide_eq_false (by omega)
            have hui : ¬ (u : Int) < (ll : Int) := by omega
            have hue : u = LL.length := by have := hllh.out; omega
            have hrowOk : RowOk X nd row := row_end hT.out hndX (by
              have := hin.out
              rw [hue, List.take_length] at this
              rw [hLLh.out]; exact this)
            obtain ⟨R, hRw, hTi⟩ := hTab.rows
            have hRX : nd < R.length := by rw [hTi.len]; exact hndX
            obtain ⟨vs, hRv⟩ := hRw
            have hg5 := hRv.lt
            have bwr6 : Hid (∀ k, k < wr0.heap.size → wr.heap[k]? = wr0.heap[k]?) := fun k hk => by
              have h1 := b5.block k hk
              have h2 := b56.out.block k (Nat.lt_of_lt_of_le hk b5.size)
              have h3 := twu.block k (Nat.lt_of_lt_of_le hk (Nat.le_trans b5.size b56.out.size)) (by rw [hrh.out]; omega) (by rw [hrh.out]; omega)
              exact h3.trans (h2.trans h1)
            have hput := hRv.put hRX (v := .slice (some ⟨r, 0, none⟩) 256 256) (r := row) (w1 := wr) (fun k hk _ => bwr6.out k hk) (by
              have := own_of_cells (B := w2.heap.size) (by rw [hrh.out]; exact hTab.tw.size) hhr.out hrowOk.len
              rw [hrowOk.len]; exact this) (fun k hk => .inr (by
                have : k = r := (Option.some.inj hk).symm
                rw [this, hrh.out]; exact Nat.le_refl _))
            have hTab' : Hid (Tab w2 g X (q + 1) (wr.setCell ⟨g, nd, none⟩ (.slice (some ⟨r, 0, none⟩) 256 256))) := by
              refine ⟨(hTab.tw.trans ⟨?_, ?_, ?_, ?_, fun k hk _ _ => bwr6.out k hk⟩).trans (LkL.Twin.of_set _ _ (.inl rfl)), _, ⟨_, hput⟩, ?_⟩
              · exact twu.os.trans (b56.out.os.trans b5.os)
              · exact twu.tape.trans (b56.out.tape.trans b5.tape)
              · exact twu.output.trans (b56.out.output.trans b5.output)
              · exact Nat.le_trans b5.size (Nat.le_trans b56.out.size twu.size)
              · rw [← hndh.out]
                rw [← hndh.out] at hrowOk
                exact tab_next hqX hTi hrowOk
            have hcg : wr.cell? ⟨g, nd, none⟩ = some (vs.getD nd undef) := by
              have h1 := hRv.cell hRX
              unfold World.cell? at h1 ⊢
              rw [bwr6.out g hg5]; exact h1
            have hfg : wr.frozen? ⟨g, nd, none⟩ = false := frozen_of ((bwr6.out g hg5).trans hRv.head)
            have htc : wr.cell? ⟨t, 1, none⟩ = some (.slice (some ⟨g, 0, none⟩) n n) := by
              have h1 : wr.heap[t]? = _ := (bwr6.out t (Nat.lt_of_lt_of_le htw2 hTab.tw.size)).trans ((hTab.tw.block t htw2 (by omega) (by omega)).trans hht.out)
              exact cell_of h1 rfl
            have z1 : IntKind.i64.wrap ((q : Int) + 1) = (q : Int) + 1 := by rw [IntKind.wrap_i64]; omega
            have hndi : (nd : Int) < (n : Int) := by omega
            clear hin hhr twu hrowOk hTi hRv hput bwr6 hue belu hlku
            go_wp2_with fail
            go_roundw
            case rel => exact ⟨q + 1, hqlt, by go_num, hTab'.out⟩
            case measure => simp [intOf]; omega
      · have hnz : ((nd : Int) != 0) = true := by simp; omega
        obtain ⟨R, ⟨vs, hRv⟩, hTi⟩ := hTab.rows
        have hff := tab_fail hT.out hOkh.out hqX hTi (by rw [hndh.out]; exact hz)
        rw [hndh.out] at hff
        have cF := fail_in (hlkh.out.below ((belr.trans (b4.mono belr.size)).trans (⟨rfl, rfl, rfl, Nat.le_refl _, fun _ _ => rfl⟩ : Below w.heap.size w4 w4.drew))) (k := nd) (by rw [hNn.out]; exact hndn)
        have hinB := fun base (h : RowOk X (F.getD nd 0) base) => row_from (F := F) hT.out hOkh.out hndX h
        generalize F.getD nd 0 = f at cF hff hinB
        obtain ⟨hfX, hfR⟩ := hff
        have hfl : f < R.length := by rw [hTi.len]; exact hfX
        have hfn : f < n := by rw [hXn.out] at hfX; exact hfX
        have hof := hRv.own f hfl
        have hcf := pw_cell_below b4 (hRv.cell hfl)
        rw [hfR.len] at hof
        have hin := hinB _ hfR
        generalize R.getD f [] = base at hof hin hfR
        have hbl : base.length = 256 := hfR.len
        obtain ⟨_, Vf, capf, hvf, hcells⟩ := ints_form hof
        obtain ⟨gf, rfl, _⟩ := hcells (by decide)
        rw [hvf] at hcf hof
        have hcells4 := World.ownsRow.cells (g := gf) (own_below hof b4) rfl
        have htc : w4.cell? ⟨t, 1, none⟩ = some (.slice (some ⟨g, 0, none⟩) n n) := by
          have h1 : wr0.heap[t]? = _ := (hTab.tw.block t htw2 (by omega) (by omega)).trans hht.out
          exact pw_cell_below b4 (cell_of h1 rfl)
        have hfi : (f : Int) < (n : Int) := by omega
        have hr4d : w4.drew.heap[wr0.heap.size]? = some (.cells (zeroRow.map encN).toArray 3 (0, 0)) := hr4
        have b4d : Below wr0.heap.size wr0 w4.drew := b4.trans ⟨rfl, rfl, rfl, Nat.le_refl _, fun _ _ => rfl⟩
        have hcellsd : Hid (∀ (j : Nat) (v : Value), (base.map encN)[j]? = some v → w4.drew.cell? ((⟨gf, 0, none⟩ : Addr).add j) = some v) := fun j v h => hcells4 j v h
        have hinh : Hid (RowIn X nd [] base) := hin
        have hzl : (zeroRow.map encN).length = 256 := by rw [List.length_map, zeroRow_len]
        clear hz hRv hTi hfR hfX hfl hof hcells hvf hr4 hcells4 hinB hin
        go_wp2_with fail
        rw [← hw4h.out]
        clear hw4h
        refine wp_region_still_tail 10 (by kernel_rfl) (by kernel_rfl) ?_
        simp only [List.take_succ_cons, List.take_zero, List.drop_succ_cons, List.drop_zero]
        repeat still_step
        still_call cF
        repeat still_step
        try refine wpStill_nil ?_
        change wpList _ _ _ _ _ w4.drew
        clear cF hcf htc b4
        generalize w4.drew = w4d at hr4d b4d hcellsd ⊢
        refine wpList_copy_splice rfl (.tmp 28) (.tmp 37) 31 31 rfl 3 Tryz.underlying31 info3sz (some ⟨wr0.heap.size, 0, none⟩) (some ⟨gf, 0, none⟩) 256 256 256 capf rfl rfl wr0.heap.size 0 (zeroRow.map encN) 3 hr4d (base.map encN) ?n1 ?n2 ?n3 ?n4 wr0.heap.size wr0 b4d (Nat.le_refl _) ?_
        case n1 => rw [List.length_map, hbl]; rfl
        case n2 => exact fun _ => ⟨rfl, _, rfl, hcellsd.out⟩
        case n3 => rw [List.length_map, hbl, hzl]; decide
        case n4 => intro v hv; obtain ⟨x, _, rfl⟩ := List.mem_map.1 hv; rfl
        intro w5 hr5s b5
        have hr5 : w5.heap[wr0.heap.size]? = some (.cells (rowC base) 3 (0, 0)) := by
          have h1 := hr5s.out
          have e : splice (zeroRow.map encN) 0 (base.map encN) = base.map encN := by
            unfold splice
            rw [List.take_zero, List.nil_append, List.length_map, hbl, List.drop_of_length_le (by rw [hzl]; decide), List.append_nil]
          rw [e] at h1
          exact h1
        have hin : RowIn X nd [] base := hinh.out
        clear hr5s hcellsd hr4d b4d hbl hinh hzl
        have hr5h : Hid (w5.heap[wr0.heap.size]? = some (.cells (rowC base) 3 (0, 0)) ∧ RowIn X nd [] base) := ⟨hr5, hin⟩
        have blr5 := belr.trans (b5.mono belr.size)
        have tw5 : Hid (LkL.Twin g g w2 w5) := (hTab.tw).trans (LkL.Twin.of_below b5)
        obtain ⟨LL, hLL⟩ : ∃ LL, sonsL (X.getD nd noPn).sons = LL := ⟨_, rfl⟩
        have hLLh : Hid (sonsL (X.getD nd noPn).sons = LL) := hLL
        have hlk5 := hlkh.out.below blr5
        have cT5 := trie_any hlk5
        have cSo := sons_call hlk5.trie (by rw [hNn.out]; exact hbig) hNXh.out nd hndX hLL
        have hLl : LL.length ≤ 256 := by rw [← hLL]; exact sonsL_len _
        clear hr5 hin hLL
        go_wp2_with fail
        refine cT5.mono ?_
        rintro e w6 ⟨rfl, hw⟩
        rw [hw]
        clear cT5 hw w6
        go_wp2_with fail
        refine cSo.mono ?_
        rintro e w6 ⟨Vs, cps, rfl, hVs, b6⟩
        have hh6 : Hid (w6.heap[wr0.heap.size]? = some (.cells (rowC base) 3 (0, 0))) := heap_below b6 hr5h.out.1
        have hin6 : Hid (RowIn X nd (LL.take 0) base) := by rw [List.take_zero]; exact hr5h.out.2
        have bel6 := blr5.trans (b6.mono blr5.size)
        have tw6 : Hid (LkL.Twin g g w2 w6) := tw5.out.trans (LkL.Twin.of_below b6)
        have b56 : Hid (Below w5.heap.size w5 w6) := b6
        have hrlt : wr0.heap.size < w5.heap.size := heap_lt hr5h.out.1
        obtain ⟨r, hr⟩ : ∃ r, r = wr0.heap.size := ⟨_, rfl⟩
        have hrh : Hid (r = wr0.heap.size) := hr
        rw [← hr] at hh6 hrlt ⊢
        have hgs : Hid (∀ gs, Vs = some ⟨gs, 0, none⟩ → 0 < LL.length → gs ≠ r) := fun gs hgs h0 => by
          obtain ⟨g', hg', hcs⟩ := hVs.out h0
          rw [hgs] at hg'
          injection hg' with hg'
          injection hg' with hg'
          subst hg'
          have h1 := hcs 0 h0
          rintro rfl
          have h2 := cell_of (i := 0) hh6.out (v := encN (base.getD 0 0)) (by
            have hl0 : 0 < base.length := by rw [hr5h.out.2.len]; decide
            unfold rowC
            rw [List.getElem?_toArray, List.getElem?_map, List.getElem?_eq_getElem hl0, List.getD_eq_getElem?_getD, List.getElem?_eq_getElem hl0]; rfl)
          rw [h2] at h1
          unfold encN at h1
          injection h1 with h1
          injection h1 with h1
          cases h1
        clear cSo hr blr5 b6 hlk5 hr5h
        go_wp2_with fail
        generalize hlln : LL.length = ll at *
        have hllh : Hid (LL.length = ll) := hlln
        clear hlln
        go_loopw [44] (fun s wr2 => ∃ (u : Nat) (row : List Nat), u ≤ ll ∧ s = .int .i64 u ∧ Hid (wr2.heap[r]? = some (.cells (rowC row) 3 (0, 0))) ∧ Hid (RowIn X nd (LL.take u) row) ∧ LkL.Twin r r w6 wr2) (fun s _ => ll - (intOf s).toNat)
        case atStart => exact ⟨0, base, Nat.zero_le _, rfl, hh6, hin6, LkL.Twin.refl _ _ _⟩
        case round =>
          obtain ⟨u, row, hu, rfl, hhr, hin, twu⟩ := hrel
          clear hh6 hin6
          have hw6r : w.heap.size ≤ r := by rw [hrh.out]; exact belr.size
          have belu := bel6.trans (twu.below bel6.size hw6r hw6r)
          have hlku := hlkh.out.below belu
          by_cases hult : u < ll
          · have hud : decide ((u : Int) < (ll : Int)) = true := decide_eq_true (by omega)
            have hui : (u : Int) < (ll : Int) := by omega
            obtain ⟨gs, rfl, hcs⟩ := hVs.out (by omega)
            have hgg := hgs.out gs rfl (by omega)
            have cc6 := hcs u hult
            have cc : wr.cell? ⟨gs, u, none⟩ = some (.int .u8 (LL.getD u 0)) := by
              have hb := twu.block gs (World.block_lt_of_cell? w6 _ cc6) hgg hgg
              unfold World.cell? at cc6 ⊢
              rw [hb]; exact cc6
            have huL : u < LL.length := by rw [hllh.out]; exact hult
            have hmem : LL.getD u 0 ∈ sonsL (X.getD nd noPn).sons := by
              rw [hLLh.out, List.getD_eq_getElem?_getD, List.getElem?_eq_getElem huL]; exact List.getElem_mem huL
            have htk : LL.take (u + 1) = LL.take u ++ [LL.getD u 0] := take_getD LL 0 huL
            obtain ⟨hc, hsome⟩ := mem_sonsL.1 hmem
            generalize LL.getD u 0 = c0 at cc htk hc hsome
            obtain ⟨c, rfl⟩ : ∃ c : Nat, c0 = (c : Int) := ⟨c0.toNat, by omega⟩
            obtain ⟨x, hx⟩ := Option.isSome_iff_exists.1 hsome
            have hc255 : c ≤ 255 := by omega
            have hci : (c : Int) < 256 := by omega
            have hrow := row_son hin.out hc255 hx
            rw [← htk] at hrow
            have hrowh : Hid (RowIn X nd (LL.take (u + 1)) (row.set c x)) := hrow
            have cT7 := trie_any hlku
            have cN := next_some hlku.trie (by rw [hNn.out]; exact hbig) hNXh.out hndX hc hx
            have hrl : row.length = 256 := hin.out.len
            have z1 : IntKind.i64.wrap ((u : Int) + 1) = (u : Int) + 1 := by rw [IntKind.wrap_i64]; omega
            have hset : Hid (∀ W : World, Below wr.heap.size wr W → (W.setCell ⟨r, c, none⟩ (.int .i64 (x : Int))).heap[r]? = some (.cells (rowC (row.set c x)) 3 (0, 0)) ∧ LkL.Twin r r w6 (W.setCell ⟨r, c, none⟩ (.int .i64 (x : Int))) ∧ W.cell? ⟨r, c, none⟩ = some (.int .i64 (row.getD c 0 : Nat)) ∧ W.frozen? ⟨r, c, none⟩ = false) := by
              intro W bW
              have hW := heap_below bW hhr.out
              refine ⟨?_, (twu.trans (LkL.Twin.of_below bW)).trans (LkL.Twin.of_set _ _ (.inl rfl)), ?_, frozen_of hW⟩
              · rw [heap_setN hW]
                unfold rowC
                rw [show (Value.int .i64 (x : Int)) = encN x from rfl, map_setN]
              · refine cell_of hW ?_
                have hl : c < row.length := by omega
                unfold rowC
                rw [List.getElem?_toArray, List.getElem?_map, List.getElem?_eq_getElem hl, List.getD_eq_getElem?_getD, List.getElem?_eq_getElem hl]; rfl
            clear hcs hgg cc6 hmem htk hc hsome hx huL hrow hlku hin hhr hrl
            go_wp2_with fail
            refine cT7.mono ?_
            rintro e w8 ⟨rfl, hw⟩
            rw [hw]
            clear cT7 hw w8
            go_wp2_with fail
            refine cN.mono ?_
            rintro e w8 ⟨rfl, b8⟩
            obtain ⟨s1, s2, s3, s4⟩ := hset.out w8 b8
            have s1h : Hid (_ = _) := s1
            have s2h : Hid (LkL.Twin r r w6 _) := s2
            clear cN cc hset s1 s2 b8 twu belu
            go_wp2_with fail
            go_roundw
            case rel => exact ⟨u + 1, _, by omega, by go_num, s1h, hrowh, s2h.out⟩
            case measure => simp [intOf]; omega
          · have hud : decide ((u : Int) < (ll : Int)) = false := decide_eq_false (by omega)
            have hui : ¬ (u : Int) < (ll : Int) := by omega
            have hue : u = LL.length := by have := hllh.out; omega
            have hrowOk : RowOk X nd row := row_end hT.out hndX (by
              have := hin.out
              rw [hue, List.take_length] at this
              rw [hLLh.out]; exact this)
            obtain ⟨R, hRw, hTi⟩ := hTab.rows
            have hRX : nd < R.length := by rw [hTi.len]; exact hndX
            obtain ⟨vs, hRv⟩ := hRw
            have hg5 := hRv.lt
            have bwr6 : Hid (∀ k, k < wr0.heap.size → wr.heap[k]? = wr0.heap[k]?) := fun k hk => by
              have h1 := b5.block k hk
              have h2 := b56.out.block k (Nat.lt_of_lt_of_le hk b5.size)
              have h3 := twu.block k (Nat.lt_of_lt_of_le hk (Nat.le_trans b5.size b56.out.size)) (by rw [hrh.out]; omega) (by rw [hrh.out]; omega)
              exact h3.trans (h2.trans h1)
            have hput := hRv.put hRX (v := .slice (some ⟨r, 0, none⟩) 256 256) (r := row) (w1 := wr) (fun k hk _ => bwr6.out k hk) (by
              have := own_of_cells (B := w2.heap.size) (by rw [hrh.out]; exact hTab.tw.size) hhr.out hrowOk.len
              rw [hrowOk.len]; exact this) (fun k hk => .inr (by
                have : k = r := (Option.some.inj hk).symm
                rw [this, hrh.out]; exact Nat.le_refl _))
            have hTab' : Hid (Tab w2 g X (q + 1) (wr.setCell ⟨g, nd, none⟩ (.slice (some ⟨r, 0, none⟩) 256 256))) := by
              refine ⟨(hTab.tw.trans ⟨?_, ?_, ?_, ?_, fun k hk _ _ => bwr6.out k hk⟩).trans (LkL.Twin.of_set _ _ (.inl rfl)), _, ⟨_, hput⟩, ?_⟩
              · exact twu.os.trans (b56.out.os.trans b5.os)
              · exact twu.tape.trans (b56.out.tape.trans b5.tape)
              · exact twu.output.trans (b56.out.output.trans b5.output)
              · exact Nat.le_trans b5.size (Nat.le_trans b56.out.size twu.size)
              · rw [← hndh.out]
                rw [← hndh.out] at hrowOk
                exact tab_next hqX hTi hrowOk
            have hcg : wr.cell? ⟨g, nd, none⟩ = some (vs.getD nd undef) := by
              have h1 := hRv.cell hRX
              unfold World.cell? at h1 ⊢
              rw [bwr6.out g hg5]; exact h1
            have hfg : wr.frozen? ⟨g, nd, none⟩ = false := frozen_of ((bwr6.out g hg5).trans hRv.head)
            have htc : wr.cell? ⟨t, 1, none⟩ = some (.slice (some ⟨g, 0, none⟩) n n) := by
              have h1 : wr.heap[t]? = _ := (bwr6.out t (Nat.lt_of_lt_of_le htw2 hTab.tw.size)).trans ((hTab.tw.block t htw2 (by omega) (by omega)).trans hht.out)
              exact cell_of h1 rfl
            have z1 : IntKind.i64.wrap ((q : Int) + 1) = (q : Int) + 1 := by rw [IntKind.wrap_i64]; omega
            have hndi : (nd : Int) < (n : Int) := by omega
            clear hin hhr twu hrowOk hTi hRv hput bwr6 hue belu hlku
            go_wp2_with fail
            go_roundw
            case rel => exact ⟨q + 1, hqlt, by go_num, hTab'.out⟩
            case measure => simp [intOf]; omega
    · have hqd : decide ((q : Int) < (n : Int)) = false := decide_eq_false (by omega)
      have hqi : ¬ (q : Int) < (n : Int) := by omega
      obtain rfl : q = n := by omega
      obtain ⟨R, hRw, hTi⟩ := hTab.rows
      have hRl : R.length = q := by rw [hTi.len, hXn.out]
      have hht0 : wr0.heap[t]? = _ := (hTab.tw.block t htw2 (by omega) (by omega)).trans hht.out
      have hfin : Hid (DnPost w p X (.returned (.pointer (some ⟨t, 0, none⟩))) wr0) := by
        rw [← hXn.out] at hTi
        have hok := tab_end hTi
        refine ⟨belr, t, g, w2.heap.size, R, rfl, by rw [hth.out]; omega, ⟨?_, hRw, fun i hi => (hok.2 i (by rw [← hok.1]; exact hi)).len⟩, hok⟩
        rw [hRl]; exact hht0
      clear hRw hTi hht0 belr
      go_wp2_with fail
      go_ret
      exact hfin.out
end Go.Proofs.YtdeeeechdlcdbaaGreat.DnW
