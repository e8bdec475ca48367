/- The walk of ScanFinds. -/
import Derived.Test.YtdeeeechdlcdbaaScN
import Derived.Deep.LoopGhost
import Derived.Test.YtdeeeechdlcdbaaRegQ
import Derived.Test.YtdeeeechdlcdbaaPhW
import Derived.IntWalk
import Derived.Deep.QuietTactic
import Derived.BigQuiet
set_option linter.unusedVariables false
set_option linter.unusedSimpArgs false
namespace Go.Proofs.Ytdeeeechdlcdbaa.SfW
open Go Go.RowKit Go.Proofs Go.Proofs.Ytdeeeechdlcdbaa Go.Proofs.Ytdeeeechdlcdbaa.Base Go.Proofs.Ytdeeeechdlcdbaa.DiA Go.Proofs.Ytdeeeechdlcdbaa.DiB Go.Proofs.Ytdeeeechdlcdbaa.DiC Go.Proofs.Ytdeeeechdlcdbaa.TrP Go.Proofs.Ytdeeeechdlcdbaa.TrM Go.Proofs.Ytdeeeechdlcdbaa.TrA Go.Proofs.Ytdeeeechdlcdbaa.TrD Go.Proofs.Ytdeeeechdlcdbaa.TrE Go.Proofs.Ytdeeeechdlcdbaa.TtP Go.Proofs.Ytdeeeechdlcdbaa.TcP Go.Proofs.Ytdeeeechdlcdbaa.TwA Go.Proofs.Ytdeeeechdlcdbaa.LkA Go.Proofs.Ytdeeeechdlcdbaa.LkP Go.Proofs.Ytdeeeechdlcdbaa.LkM Go.Proofs.Ytdeeeechdlcdbaa.LkO Go.Proofs.Ytdeeeechdlcdbaa.LkQ Go.Proofs.Ytdeeeechdlcdbaa.LkN Go.Proofs.Ytdeeeechdlcdbaa.LkS Go.Proofs.Ytdeeeechdlcdbaa.LkX Go.Proofs.Ytdeeeechdlcdbaa.PhP Go.Proofs.Ytdeeeechdlcdbaa.PhW Go.Proofs.Ytdeeeechdlcdbaa.ScP Go.Proofs.Ytdeeeechdlcdbaa.ScS Go.Proofs.Ytdeeeechdlcdbaa.ScH Go.Proofs.Ytdeeeechdlcdbaa.ScF Go.Proofs.Ytdeeeechdlcdbaa.ScE Go.Proofs.Ytdeeeechdlcdbaa.ScX Go.Proofs.Ytdeeeechdlcdbaa.ScA Go.Proofs.Ytdeeeechdlcdbaa.ScN
theorem zk_apart {zs : List ByteArray} (h : okD zs = true) : ∀ i j, i < zs.length → j < zs.length → zk zs i = zk zs j → i = j := by
  intro i j hi hj e
  have e2 : zs.getD i ByteArray.empty = zs.getD j ByteArray.empty := data_inj e
  rcases Nat.lt_trichotomy i j with h1 | h1 | h1
  · exact absurd e2 (okD_apart h i j h1 hj)
  · exact h1
  · exact absurd e2.symm (okD_apart h j i h1 hi)
theorem zk_pos {zs : List ByteArray} (h : okD zs = true) {k : Nat} (hk : k < zs.length) : 1 ≤ (zk zs k).length := by
  have := (okD_at h hk).1
  unfold zk
  rw [← size_list]
  exact this
set_option maxRecDepth 20000 in
set_option maxHeartbeats 400000 in
theorem law_few (A : Option Addr) (n cap : Nat) (b : ByteArray) (w : World) (hf : Calls Try.prog 23 #[.slice A n cap] w fun e w' => e = .returned (.bool false) ∧ w' = w) :
    Calls Try.prog 18 #[.slice A n cap, .string b] w fun e w' => e = .returned (.bool true) ∧ Below w.heap.size w w' := by
  go_enter Try.func18, Try.ntmps18
  go_wp2_with fail
  refine hf.mono ?_
  rintro e w1 ⟨rfl, hw⟩
  rw [hw]
  clear hf hw
  go_wp2_with fail
  refine (ScX.alive_call _).mono ?_
  rintro e w2 ⟨rfl, b2⟩
  go_wp2_with fail
  go_ret
  exact ⟨rfl, b2⟩
set_option maxRecDepth 20000 in
set_option maxHeartbeats 400000 in
theorem law_out0 (A : Option Addr) (n cap : Nat) (b : ByteArray) (w : World) (hf : Calls Try.prog 23 #[.slice A n cap] w fun e w' => e = .returned (.bool true) ∧ w' = w) (hd0 : decide ((b.size : Int) > 200) = true) :
    Calls Try.prog 18 #[.slice A n cap, .string b] w fun e w' => e = .returned (.bool true) ∧ Below w.heap.size w w' := by
  go_enter Try.func18, Try.ntmps18
  go_wp2_with fail
  refine hf.mono ?_
  rintro e w1 ⟨rfl, hw⟩
  rw [hw]
  clear hf hw
  go_wp2_with fail
  refine (ScX.alive_call _).mono ?_
  rintro e w2 ⟨rfl, b2⟩
  go_wp2_with fail
  go_ret
  exact ⟨rfl, b2⟩
set_option maxRecDepth 20000 in
set_option maxHeartbeats 8000000 in
theorem law_in (A : Option Addr) (n cap : Nat) (zs : List ByteArray) (b : ByteArray) (w : World) (hf : Calls Try.prog 23 #[.slice A n cap] w fun e w' => e = .returned (.bool true) ∧ w' = w)
    (hn : n = zs.length) (hat : StrsAt w A zs) (hn1 : n ≤ 110) (htot : total zs ≤ 1300) (hd0 : decide ((b.size : Int) > 200) = false) :
    Calls Try.prog 18 #[.slice A n cap, .string b] w fun e w' => e = .returned (.bool true) ∧ Below w.heap.size w w' := by
  have hnh : Hid (n = zs.length) := hn
  clear hn
  go_enter Try.func18, Try.ntmps18
  go_wp2_with fail
  refine hf.mono ?_
  rintro e w1 ⟨rfl, hw⟩
  rw [hw]
  clear hf hw w1
  go_wp2_with fail
  refine (ScX.alive_call _).mono ?_
  rintro e w1 ⟨rfl, bel⟩
  have hat1 := hat.below bel
  go_wp2_with fail
  refine (phrases_any A n cap zs w1 hnh.out hat1 (by omega)).mono ?_
  rintro e w2 ⟨hph, hw⟩
  rw [hw]
  clear hw w2
  rcases hph with ⟨hok, rfl⟩ | ⟨hok, c0, k0, hc0, rfl⟩
  rotate_left
  · have hcd : (c0 != 0) = true := by simp [hc0]
    clear hat hat1 hok
    go_wp2_with fail
    go_ret
    exact ⟨rfl, bel⟩
  go_wp2_with fail
  refine (lmake_any A n cap zs w1 hnh.out hat1 (by omega)).mono ?_
  rintro e w2 ⟨b2, ⟨hno, _⟩ | ⟨_, p, B, px, m, N, F, O, L, rfl, hl⟩⟩
  · rw [hok] at hno; cases hno
  replace bel := bstep bel b2
  have hat2 := hat1.below b2
  clear hat1 b2 hat
  have hT := tr_build hok
  have hok2 := hl.ok
  have heq := hl.eq
  have hlen := hl.len
  have hla := hl.at_
  clear hl
  obtain ⟨X, hX⟩ : ∃ X, build zs zs.length = X := ⟨_, rfl⟩
  rw [hX] at hT hok2 heq
  have hXb : Hid (build zs zs.length = X) := hX
  have hTh : Hid (Tr zs X) := hT
  have hOk : Hid (LkOk X F O L) := hok2
  have hNX : Hid (N.map (·.p) = X) := heq
  obtain ⟨ln, hln⟩ : ∃ ln, N.length = ln := ⟨_, rfl⟩
  have hln1 : ln ≤ 1301 := by omega
  have hlnh : Hid (N.length = ln) := hln
  have hXl : Hid (X.length = ln) := by show _ = _; rw [← hNX.out, List.length_map, hln]
  have hokh : Hid (okD zs = true) := hok
  clear hX hT hok2 heq hln hlen hok
  have hlx : Hid (Lx w2 p zs X) := Lib.hid ⟨⟨B, px, m, N, F, O, L, hla, hNX.out, hOk.out, by have := hlnh.out; omega⟩, hTh.out⟩
  clear hla
  have hb2 : b.size ≤ 200 := by have := of_decide_eq_false hd0; omega
  have cA := all_any hlx.out (Below.refl _ w2) b (by omega)
  have hlen := feedU_len hTh.out [] 0 b.data.toList b.size
  have eH : feedU zs [] 0 b.data.toList b.size = hitsL zs b.data.toList := by unfold hitsL; rw [← size_list]
  rw [eH] at cA hlen
  have hmem : Hid (∀ x ∈ hitsL zs b.data.toList, x.2 < zs.length ∧ 1 ≤ (zk zs x.2).length ∧ (zk zs x.2).length ≤ x.1 ∧ x.1 ≤ b.data.toList.length ∧ (b.data.toList.drop (x.1 - (zk zs x.2).length)).take (zk zs x.2).length = zk zs x.2) := fun x hx => hits_mem hx
  have hord : Hid ((hitsL zs b.data.toList).Pairwise (Ah zs)) := hits_order _ _
  have hcnt : Hid ((startL zs b.data.toList b.data.toList.length).length = (hitsL zs b.data.toList).length) := count_same (zk_apart hokh.out) (fun k hk => zk_pos hokh.out hk)
  generalize hitsL zs b.data.toList = H at cA hlen hmem hord hcnt
  obtain ⟨nH, hnH⟩ : ∃ nH, H.length = nH := ⟨_, rfl⟩
  have hnh2 : Hid (nH = H.length) := hnH.symm
  rw [hnH] at cA hlen
  clear eH hnH hd0
  go_wp2_with fail
  refine cA.mono ?_
  rintro e w3 ⟨v, rfl, hr, b3⟩
  replace bel := bstep bel b3
  have hat3 := hat2.below b3
  obtain ⟨V, cp, rfl, hV⟩ := row_hits hr hnh2.out
  have hVh : Hid (HAt w3 V H) := hV
  have hat3h : Hid (StrsAt w3 A zs) := hat3
  clear cA hr hat2 b3 hV hat3
  go_wp2_with fail
  go_loopg [40] nH (fun kx s wr => ∃ k : Nat, k ≤ nH ∧ nH - k ≤ kx ∧ s = .int .i64 (k : Int) ∧ Below w3.heap.size w3 wr)
  case atStart => exact ⟨0, Nat.zero_le _, Nat.le_refl _, rfl, Below.refl _ _⟩
  case round =>
    obtain ⟨k, hk, hkx, rfl, br⟩ := hrel
    by_cases hlt : k < nH
    · have hltz : (k : Int) < (nH : Int) := by omega
      have hkl : k < H.length := by rw [← hnh2.out]; exact hlt
      obtain ⟨bV, oV, rfl, _, hc⟩ := hVh.out (by omega)
      have l1 := pw_cell_below br (hc k hkl).1
      have l2 := pw_cell_below br (hc k hkl).2
      have hx : H.getD k (0, 0) ∈ H := by rw [List.getD_eq_getElem?_getD, List.getElem?_eq_getElem hkl]; exact List.getElem_mem hkl
      obtain ⟨m1, m2, m3, m4, m5⟩ := hmem.out _ hx
      obtain ⟨bA, oA, rfl, _, hca⟩ := hat3h.out (by omega)
      have l3 := pw_cell_below br (hca _ m1)
      rw [← size_list] at m4
      have hA : ∀ j, k = j + 1 → (H.getD j (0, 0)).1 < (H.getD k (0, 0)).1 ∨ ((H.getD j (0, 0)).1 = (H.getD k (0, 0)).1 ∧ (zk zs (H.getD k (0, 0)).2).length < (zk zs (H.getD j (0, 0)).2).length) := by
        intro j hj
        have hjl : j < H.length := by omega
        have := List.pairwise_iff_getElem.1 hord.out j k hjl hkl (by omega)
        rw [List.getD_eq_getElem?_getD, List.getElem?_eq_getElem hjl, List.getD_eq_getElem?_getD, List.getElem?_eq_getElem hkl]
        exact this
      obtain ⟨z, hz⟩ : ∃ z, zs.getD (H.getD k (0, 0)).2 ByteArray.empty = z := ⟨_, rfl⟩
      have hzl : (zk zs (H.getD k (0, 0)).2).length = z.size := by unfold zk; rw [hz, size_list]
      have hzd : zk zs (H.getD k (0, 0)).2 = z.data.toList := by unfold zk; rw [hz]
      rw [hz] at l3
      rw [hzl] at m2 m3 m5
      rw [hzd] at m5
      rw [hzl] at hA
      generalize (H.getD k (0, 0)).1 = e1 at l1 m3 m4 m5 hA
      generalize (H.getD k (0, 0)).2 = d1 at l2 l3 m1
      have hex : b.extract (e1 - z.size) e1 = z := by
        apply data_inj
        rw [ext_list, show e1 - (e1 - z.size) = z.size by omega]
        exact m5
      have hnn : n = zs.length := hnh.out
      have hdn : d1 < n := by omega
      have hdz : (d1 : Int) < (n : Int) := by omega
      have za : IntKind.i64.wrap ((e1 : Int) - (z.size : Int)) = ((e1 - z.size : Nat) : Int) := by rw [IntKind.wrap_i64]; omega
      have x0 : (wr.alloc (.cells #[.int .i64 (e1 : Int), .int .i64 (d1 : Int)] 35)).cell? ⟨wr.heap.size, 0, none⟩ = some (.int .i64 (e1 : Int)) := cell_of (heap_new _ _) rfl
      have x1 : (wr.alloc (.cells #[.int .i64 (e1 : Int), .int .i64 (d1 : Int)] 35)).cell? ⟨wr.heap.size, 1, none⟩ = some (.int .i64 (d1 : Int)) := cell_of (heap_new _ _) rfl
      have bW := balloc br (.cells #[.int .i64 (e1 : Int), .int .i64 (d1 : Int)] 35)
      have bN := balloc (Below.refl wr.heap.size wr) (.cells #[.int .i64 (e1 : Int), .int .i64 (d1 : Int)] 35)
      have y3 := pw_cell_below bN l3
      obtain ⟨W, hW⟩ : ∃ W, W = wr.alloc (.cells #[.int .i64 (e1 : Int), .int .i64 (d1 : Int)] 35) := ⟨_, rfl⟩
      have hWh : Hid (W = wr.alloc (.cells #[.int .i64 (e1 : Int), .int .i64 (d1 : Int)] 35)) := hW
      rw [← hW] at x0 x1 bW bN y3
      obtain ⟨q, hq⟩ : ∃ q, q = wr.heap.size := ⟨_, rfl⟩
      have hqh : Hid (q = wr.heap.size) := hq
      rw [← hq] at x0 x1
      obtain ⟨em, hem⟩ : ∃ em, e1 - z.size = em := ⟨_, rfl⟩
      rw [hem] at hex
      have t1 : decide ((d1 : Int) < 0) = false := decide_eq_false (by omega)
      have t3 : decide (b.size < e1) = false := decide_eq_false (by omega)
      have t4 : decide (e1 < z.size) = false := decide_eq_false (by omega)
      have hlo : em ≤ e1 := by omega
      have u2 : decide ((d1 : Int) ≥ (n : Int)) = false := decide_eq_false (by omega)
      have u3 : decide ((e1 : Int) > (b.size : Int)) = false := decide_eq_false (by omega)
      have u4' : decide ((e1 : Int) < (z.size : Int)) = false := decide_eq_false (by omega)
      have hloz : (em : Int) ≤ (e1 : Int) := by omega
      have hez : (e1 : Int) ≤ (b.size : Int) := by omega
      have za2 : IntKind.i64.wrap ((e1 : Int) - (z.size : Int)) = (em : Int) := by rw [IntKind.wrap_i64]; omega
      have z1 : IntKind.i64.wrap ((k : Int) + 1) = (k : Int) + 1 := by rw [IntKind.wrap_i64]; omega
      have es : ((b.extract em e1).toList == z.toList) = true := by rw [hex]; exact beq_self_eq_true _
      have es2 : ((b.extract em e1).toList != z.toList) = false := by rw [hex]; simp
      clear hW hz hzl hzd m5 m1 hx hnn hq hem hex za
      have hch : Hid (∀ j, j < H.length → w3.cell? ⟨bV, oV + j * 2, none⟩ = some (.int .i64 ((H.getD j (0, 0)).1 : Int)) ∧ w3.cell? ⟨bV, oV + j * 2 + 1, none⟩ = some (.int .i64 ((H.getD j (0, 0)).2 : Int))) := hc
      have hcah : Hid (∀ j, j < zs.length → w3.cell? ⟨bA, oA + j, none⟩ = some (.string (zs.getD j ByteArray.empty))) := hca
      have brh : Hid (Below w3.heap.size w3 W) := bW
      have hAh : Hid (∀ j, k = j + 1 → (H.getD j (0, 0)).1 < e1 ∨ ((H.getD j (0, 0)).1 = e1 ∧ z.size < (zk zs (H.getD j (0, 0)).2).length)) := hA
      clear hA
      clear hc hca
      go_wp2_with fail
      rw [← hWh.out, ← hqh.out]
      clear hWh l1 l2 l3 br bN
      dsimp only [List.append_eq, List.cons_append, List.nil_append]
      by_cases hk0 : k = 0
      · have u0 : decide ((k : Int) > 0) = false := by rw [hk0]; rfl
        have u0' : decide (0 < k) = false := by rw [hk0]; rfl
        clear hk0
        refine RegQ.wp_region_vals [some 45, some 46, some 47, some 48, some 49, some 50, some 51, some 52, some 53, some 54, some 55, some 56, some 57, some 58, some 59, some 60, some 61, some 62, some 63, some 64, some 65, some 66, some 67, some 68, some 69, some 70, some 71, some 72, some 73, some 74, some 75, some 76, some 77, some 78, some 79, some 80, some 81, some 82, some 83, some 84, some 85, some 86, some 87, some 88, some 89, some 90, some 91, some 92, some 93, some 94, some 95, some 96, some 97, some 98, some 99, some 100, some 101, some 102, some 103, some 104, some 105, some 106, some 107, some 108, some 109, some 110, some 111, some 112, some 113, some 114, some 115, some 116, some 117, some 118, some 119, some 120, some 121, some 122, some 123, some 124, some 125, some 126, some 127, some 128, some 129, some 130, some 131, some 132, some 133, some 134, some 135, some 136, some 137, some 138] [[], [0], [1], [2], [3], [4, 3], [3], [6, 3], [5, 7, 3], [3, 8], [9, 3], [10], [11, 10], [10], [13, 10], [12, 14, 10], [10, 15], [16, 10], [17], [18, 17], [17], [17], [21, 17], [20, 22, 17], [23, 17], [24, 17], [19, 25, 17], [17, 26], [27, 17], [28], [28], [30, 28], [28], [28], [33, 28], [32, 34, 28], [35, 28], [36, 28], [31, 37, 28], [28], [39, 28], [29, 38, 40, 28], [28], [28], [43, 28], [42, 44, 28], [45, 28], [41, 46, 28], [28, 47], [48, 28], [49], [50, 49], [51, 49, 49], [52], [52], [54, 52], [53, 55, 52], [56, 52], [57, 52], [52], [59, 52], [58, 60, 52], [61, 52, 52], [62], [62], [64, 62], [63, 65, 62], [66, 62], [67, 62], [62], [69, 62], [68, 70, 62], [71, 62, 62], [72], [72], [72], [75, 72], [74, 76, 72], [77, 72], [78, 72], [73, 79, 72], [80, 72], [81, 72], [72], [72], [84, 72], [83, 85, 72], [86, 72], [87, 72], [82, 88, 72], [72, 89, 62], [62, 90, 52], [52, 91, 49], [49, 92]] (fun iq => ([.pointer (some ⟨q, 1, none⟩), .int .i64 (d1 : Int), .bool false, .bool false, .pointer (some ⟨q, 1, none⟩), .int .i64 (d1 : Int), .slice (some ⟨bA, oA, none⟩) n cap, .int .i64 (n : Int), .bool false, .bool false, .bool false, .pointer (some ⟨q, 0, none⟩), .int .i64 (e1 : Int), .string b, .int .i64 (b.size : Int), .bool false, .bool false, .bool false, .pointer (some ⟨q, 0, none⟩), .int .i64 (e1 : Int), .slice (some ⟨bA, oA, none⟩) n cap, .pointer (some ⟨q, 1, none⟩), .int .i64 (d1 : Int), .pointer (some ⟨bA, oA + d1, none⟩), .string z, .int .i64 (z.size : Int), .bool false, .bool false, .bool false, .string b, .pointer (some ⟨q, 0, none⟩), .int .i64 (e1 : Int), .slice (some ⟨bA, oA, none⟩) n cap, .pointer (some ⟨q, 1, none⟩), .int .i64 (d1 : Int), .pointer (some ⟨bA, oA + d1, none⟩), .string z, .int .i64 (z.size : Int), .int .i64 (em : Int), .pointer (some ⟨q, 0, none⟩), .int .i64 (e1 : Int), .string (b.extract em e1), .slice (some ⟨bA, oA, none⟩) n cap, .pointer (some ⟨q, 1, none⟩), .int .i64 (d1 : Int), .pointer (some ⟨bA, oA + d1, none⟩), .string z, .bool false, .bool false, .bool false, .int .i64 (k : Int), .bool false, .bool false, undef, undef, undef, undef, undef, undef, undef, undef, undef, undef, undef, undef, undef, undef, undef, undef, undef, undef, undef, undef, undef, undef, undef, undef, undef, undef, undef, undef, undef, undef, undef, undef, undef, undef, undef, undef, undef, undef, undef, .bool false, .bool false] : List Value).getD iq undef) [0, 1, 2, 3, 4, 5, 6, 7, 8, 9, 10, 11, 12, 13, 14, 15, 16, 17, 18, 19, 20, 21, 22, 23, 24, 25, 26, 27, 28, 29, 30, 31, 32, 33, 34, 35, 36, 37, 38, 39, 40, 41, 42, 43, 44, 45, 46, 47, 48, 49, 50, 51, 52, 53, 54, 55, 56, 57, 58, 59, 60, 61, 62, 63, 64, 65, 66, 67, 68, 69, 70, 71, 72, 73, 74, 75, 76, 77, 78, 79, 80, 81, 82, 83, 84, 85, 86, 87, 88, 89, 90, 91, 92, 93] 177 rfl rfl (by kernel_rfl) (by kernel_rfl) (by kernel_rfl) (by kernel_rfl) (by kernel_rfl) (fun hsz hon => ⟨?_, ?_, ?_, ?_, ?_, ?_, ?_, ?_, ?_, ?_, ?_, ?_, ?_, ?_, ?_, ?_, ?_, ?_, ?_, ?_, ?_, ?_, ?_, ?_, ?_, ?_, ?_, ?_, ?_, ?_, ?_, ?_, ?_, ?_, ?_, ?_, ?_, ?_, ?_, ?_, ?_, ?_, ?_, ?_, ?_, ?_, ?_, ?_, ?_, ?_, ?_, ?_, ?_, ?_, ?_, ?_, ?_, ?_, ?_, ?_, ?_, ?_, ?_, ?_, ?_, ?_, ?_, ?_, ?_, ?_, ?_, ?_, ?_, ?_, ?_, ?_, ?_, ?_, ?_, ?_, ?_, ?_, ?_, ?_, ?_, ?_, ?_, ?_, ?_, ?_, ?_, ?_, ?_, ?_, trivial⟩) ?_
        · refine RegQ.step_in (by kernel_rfl) ?_
          intro A hA W hW
          obtain ⟨qn, rfl⟩ := hW
          have r9 : A.tmps[9]?.getD undef = .pointer (some ⟨q, 0, none⟩) := RegQ.outG hA (by kernel_rfl) rfl
          clear hA
          unfold Oper.quietAt
          go_simp
        · refine RegQ.step_in (by kernel_rfl) ?_
          intro A hA W hW
          obtain ⟨qn, rfl⟩ := hW
          have r45 : A.tmps[45]?.getD undef = .pointer (some ⟨q, 1, none⟩) := RegQ.inG (j := 0) hA hsz rfl (by kernel_rfl) (by decide) rfl
          clear hA
          unfold Oper.quietAt
          go_simp
        · refine RegQ.step_in (by kernel_rfl) ?_
          intro A hA W hW
          obtain ⟨qn, rfl⟩ := hW
          have r46 : A.tmps[46]?.getD undef = .int .i64 (d1 : Int) := RegQ.inG (j := 1) hA hsz rfl (by kernel_rfl) (by decide) rfl
          clear hA
          unfold Oper.quietAt
          go_simp
        · refine RegQ.step_in (by kernel_rfl) ?_
          intro A hA W hW
          obtain ⟨qn, rfl⟩ := hW
          have r47 : A.tmps[47]?.getD undef = .bool false := RegQ.inG (j := 2) hA hsz rfl (by kernel_rfl) (by decide) rfl
          clear hA
          unfold Oper.quietAt
          go_simp
        · refine RegQ.step_in (by kernel_rfl) ?_
          intro A hA W hW
          obtain ⟨qn, rfl⟩ := hW
          have r9 : A.tmps[9]?.getD undef = .pointer (some ⟨q, 0, none⟩) := RegQ.outG hA (by kernel_rfl) rfl
          clear hA
          unfold Oper.quietAt
          go_simp
        · refine RegQ.step_in (by kernel_rfl) ?_
          intro A hA W hW
          obtain ⟨qn, rfl⟩ := hW
          have r49 : A.tmps[49]?.getD undef = .pointer (some ⟨q, 1, none⟩) := RegQ.inG (j := 4) hA hsz rfl (by kernel_rfl) (by decide) rfl
          clear hA
          unfold Oper.quietAt
          go_simp
        · refine RegQ.step_in (by kernel_rfl) ?_
          intro A hA W hW
          obtain ⟨qn, rfl⟩ := hW
          have r0 : A.tmps[0]?.getD undef = .slice (some ⟨bA, oA, none⟩) n cap := RegQ.outG hA (by kernel_rfl) rfl
          clear hA
          unfold Oper.quietAt
          go_simp
        · refine RegQ.step_in (by kernel_rfl) ?_
          intro A hA W hW
          obtain ⟨qn, rfl⟩ := hW
          have r51 : A.tmps[51]?.getD undef = .slice (some ⟨bA, oA, none⟩) n cap := RegQ.inG (j := 6) hA hsz rfl (by kernel_rfl) (by decide) rfl
          clear hA
          unfold Oper.quietAt
          go_simp
        · refine RegQ.step_in (by kernel_rfl) ?_
          intro A hA W hW
          obtain ⟨qn, rfl⟩ := hW
          have r50 : A.tmps[50]?.getD undef = .int .i64 (d1 : Int) := RegQ.inG (j := 5) hA hsz rfl (by kernel_rfl) (by decide) rfl
          have r52 : A.tmps[52]?.getD undef = .int .i64 (n : Int) := RegQ.inG (j := 7) hA hsz rfl (by kernel_rfl) (by decide) rfl
          clear hA
          unfold Oper.quietAt
          go_simp
        · refine RegQ.step_in (by kernel_rfl) ?_
          intro A hA W hW
          obtain ⟨qn, rfl⟩ := hW
          have r48 : A.tmps[48]?.getD undef = .bool false := RegQ.inG (j := 3) hA hsz rfl (by kernel_rfl) (by decide) rfl
          have r53 : A.tmps[53]?.getD undef = .bool false := RegQ.inG (j := 8) hA hsz rfl (by kernel_rfl) (by decide) rfl
          clear hA
          unfold Oper.quietAt
          go_simp
        · refine RegQ.step_in (by kernel_rfl) ?_
          intro A hA W hW
          obtain ⟨qn, rfl⟩ := hW
          have r54 : A.tmps[54]?.getD undef = .bool false := RegQ.inG (j := 9) hA hsz rfl (by kernel_rfl) (by decide) rfl
          clear hA
          unfold Oper.quietAt
          go_simp
        · refine RegQ.step_in (by kernel_rfl) ?_
          intro A hA W hW
          obtain ⟨qn, rfl⟩ := hW
          have r9 : A.tmps[9]?.getD undef = .pointer (some ⟨q, 0, none⟩) := RegQ.outG hA (by kernel_rfl) rfl
          clear hA
          unfold Oper.quietAt
          go_simp
        · refine RegQ.step_in (by kernel_rfl) ?_
          intro A hA W hW
          obtain ⟨qn, rfl⟩ := hW
          have r56 : A.tmps[56]?.getD undef = .pointer (some ⟨q, 0, none⟩) := RegQ.inG (j := 11) hA hsz rfl (by kernel_rfl) (by decide) rfl
          clear hA
          unfold Oper.quietAt
          go_simp
        · refine RegQ.step_in (by kernel_rfl) ?_
          intro A hA W hW
          obtain ⟨qn, rfl⟩ := hW
          have r1 : A.tmps[1]?.getD undef = .string b := RegQ.outG hA (by kernel_rfl) rfl
          clear hA
          unfold Oper.quietAt
          go_simp
        · refine RegQ.step_in (by kernel_rfl) ?_
          intro A hA W hW
          obtain ⟨qn, rfl⟩ := hW
          have r58 : A.tmps[58]?.getD undef = .string b := RegQ.inG (j := 13) hA hsz rfl (by kernel_rfl) (by decide) rfl
          clear hA
          unfold Oper.quietAt
          go_simp
        · refine RegQ.step_in (by kernel_rfl) ?_
          intro A hA W hW
          obtain ⟨qn, rfl⟩ := hW
          have r57 : A.tmps[57]?.getD undef = .int .i64 (e1 : Int) := RegQ.inG (j := 12) hA hsz rfl (by kernel_rfl) (by decide) rfl
          have r59 : A.tmps[59]?.getD undef = .int .i64 (b.size : Int) := RegQ.inG (j := 14) hA hsz rfl (by kernel_rfl) (by decide) rfl
          clear hA
          unfold Oper.quietAt
          go_simp
        · refine RegQ.step_in (by kernel_rfl) ?_
          intro A hA W hW
          obtain ⟨qn, rfl⟩ := hW
          have r55 : A.tmps[55]?.getD undef = .bool false := RegQ.inG (j := 10) hA hsz rfl (by kernel_rfl) (by decide) rfl
          have r60 : A.tmps[60]?.getD undef = .bool false := RegQ.inG (j := 15) hA hsz rfl (by kernel_rfl) (by decide) rfl
          clear hA
          unfold Oper.quietAt
          go_simp
        · refine RegQ.step_in (by kernel_rfl) ?_
          intro A hA W hW
          obtain ⟨qn, rfl⟩ := hW
          have r61 : A.tmps[61]?.getD undef = .bool false := RegQ.inG (j := 16) hA hsz rfl (by kernel_rfl) (by decide) rfl
          clear hA
          unfold Oper.quietAt
          go_simp
        · refine RegQ.step_in (by kernel_rfl) ?_
          intro A hA W hW
          obtain ⟨qn, rfl⟩ := hW
          have r9 : A.tmps[9]?.getD undef = .pointer (some ⟨q, 0, none⟩) := RegQ.outG hA (by kernel_rfl) rfl
          clear hA
          unfold Oper.quietAt
          go_simp
        · refine RegQ.step_in (by kernel_rfl) ?_
          intro A hA W hW
          obtain ⟨qn, rfl⟩ := hW
          have r63 : A.tmps[63]?.getD undef = .pointer (some ⟨q, 0, none⟩) := RegQ.inG (j := 18) hA hsz rfl (by kernel_rfl) (by decide) rfl
          clear hA
          unfold Oper.quietAt
          go_simp
        · refine RegQ.step_in (by kernel_rfl) ?_
          intro A hA W hW
          obtain ⟨qn, rfl⟩ := hW
          have r0 : A.tmps[0]?.getD undef = .slice (some ⟨bA, oA, none⟩) n cap := RegQ.outG hA (by kernel_rfl) rfl
          clear hA
          unfold Oper.quietAt
          go_simp
        · refine RegQ.step_in (by kernel_rfl) ?_
          intro A hA W hW
          obtain ⟨qn, rfl⟩ := hW
          have r9 : A.tmps[9]?.getD undef = .pointer (some ⟨q, 0, none⟩) := RegQ.outG hA (by kernel_rfl) rfl
          clear hA
          unfold Oper.quietAt
          go_simp
        · refine RegQ.step_in (by kernel_rfl) ?_
          intro A hA W hW
          obtain ⟨qn, rfl⟩ := hW
          have r66 : A.tmps[66]?.getD undef = .pointer (some ⟨q, 1, none⟩) := RegQ.inG (j := 21) hA hsz rfl (by kernel_rfl) (by decide) rfl
          clear hA
          unfold Oper.quietAt
          go_simp
        · refine RegQ.step_in (by kernel_rfl) ?_
          intro A hA W hW
          obtain ⟨qn, rfl⟩ := hW
          have r65 : A.tmps[65]?.getD undef = .slice (some ⟨bA, oA, none⟩) n cap := RegQ.inG (j := 20) hA hsz rfl (by kernel_rfl) (by decide) rfl
          have r67 : A.tmps[67]?.getD undef = .int .i64 (d1 : Int) := RegQ.inG (j := 22) hA hsz rfl (by kernel_rfl) (by decide) rfl
          clear hA
          unfold Oper.quietAt
          go_simp
        · refine RegQ.step_in (by kernel_rfl) ?_
          intro A hA W hW
          obtain ⟨qn, rfl⟩ := hW
          have r68 : A.tmps[68]?.getD undef = .pointer (some ⟨bA, oA + d1, none⟩) := RegQ.inG (j := 23) hA hsz rfl (by kernel_rfl) (by decide) rfl
          clear hA
          unfold Oper.quietAt
          go_simp
        · refine RegQ.step_in (by kernel_rfl) ?_
          intro A hA W hW
          obtain ⟨qn, rfl⟩ := hW
          have r69 : A.tmps[69]?.getD undef = .string z := RegQ.inG (j := 24) hA hsz rfl (by kernel_rfl) (by decide) rfl
          clear hA
          unfold Oper.quietAt
          go_simp
        · refine RegQ.step_in (by kernel_rfl) ?_
          intro A hA W hW
          obtain ⟨qn, rfl⟩ := hW
          have r64 : A.tmps[64]?.getD undef = .int .i64 (e1 : Int) := RegQ.inG (j := 19) hA hsz rfl (by kernel_rfl) (by decide) rfl
          have r70 : A.tmps[70]?.getD undef = .int .i64 (z.size : Int) := RegQ.inG (j := 25) hA hsz rfl (by kernel_rfl) (by decide) rfl
          clear hA
          unfold Oper.quietAt
          go_simp
        · refine RegQ.step_in (by kernel_rfl) ?_
          intro A hA W hW
          obtain ⟨qn, rfl⟩ := hW
          have r62 : A.tmps[62]?.getD undef = .bool false := RegQ.inG (j := 17) hA hsz rfl (by kernel_rfl) (by decide) rfl
          have r71 : A.tmps[71]?.getD undef = .bool false := RegQ.inG (j := 26) hA hsz rfl (by kernel_rfl) (by decide) rfl
          clear hA
          unfold Oper.quietAt
          go_simp
        · refine RegQ.step_in (by kernel_rfl) ?_
          intro A hA W hW
          obtain ⟨qn, rfl⟩ := hW
          have r72 : A.tmps[72]?.getD undef = .bool false := RegQ.inG (j := 27) hA hsz rfl (by kernel_rfl) (by decide) rfl
          clear hA
          unfold Oper.quietAt
          go_simp
        · refine RegQ.step_in (by kernel_rfl) ?_
          intro A hA W hW
          obtain ⟨qn, rfl⟩ := hW
          have r1 : A.tmps[1]?.getD undef = .string b := RegQ.outG hA (by kernel_rfl) rfl
          clear hA
          unfold Oper.quietAt
          go_simp
        · refine RegQ.step_in (by kernel_rfl) ?_
          intro A hA W hW
          obtain ⟨qn, rfl⟩ := hW
          have r9 : A.tmps[9]?.getD undef = .pointer (some ⟨q, 0, none⟩) := RegQ.outG hA (by kernel_rfl) rfl
          clear hA
          unfold Oper.quietAt
          go_simp
        · refine RegQ.step_in (by kernel_rfl) ?_
          intro A hA W hW
          obtain ⟨qn, rfl⟩ := hW
          have r75 : A.tmps[75]?.getD undef = .pointer (some ⟨q, 0, none⟩) := RegQ.inG (j := 30) hA hsz rfl (by kernel_rfl) (by decide) rfl
          clear hA
          unfold Oper.quietAt
          go_simp
        · refine RegQ.step_in (by kernel_rfl) ?_
          intro A hA W hW
          obtain ⟨qn, rfl⟩ := hW
          have r0 : A.tmps[0]?.getD undef = .slice (some ⟨bA, oA, none⟩) n cap := RegQ.outG hA (by kernel_rfl) rfl
          clear hA
          unfold Oper.quietAt
          go_simp
        · refine RegQ.step_in (by kernel_rfl) ?_
          intro A hA W hW
          obtain ⟨qn, rfl⟩ := hW
          have r9 : A.tmps[9]?.getD undef = .pointer (some ⟨q, 0, none⟩) := RegQ.outG hA (by kernel_rfl) rfl
          clear hA
          unfold Oper.quietAt
          go_simp
        · refine RegQ.step_in (by kernel_rfl) ?_
          intro A hA W hW
          obtain ⟨qn, rfl⟩ := hW
          have r78 : A.tmps[78]?.getD undef = .pointer (some ⟨q, 1, none⟩) := RegQ.inG (j := 33) hA hsz rfl (by kernel_rfl) (by decide) rfl
          clear hA
          unfold Oper.quietAt
          go_simp
        · refine RegQ.step_in (by kernel_rfl) ?_
          intro A hA W hW
          obtain ⟨qn, rfl⟩ := hW
          have r77 : A.tmps[77]?.getD undef = .slice (some ⟨bA, oA, none⟩) n cap := RegQ.inG (j := 32) hA hsz rfl (by kernel_rfl) (by decide) rfl
          have r79 : A.tmps[79]?.getD undef = .int .i64 (d1 : Int) := RegQ.inG (j := 34) hA hsz rfl (by kernel_rfl) (by decide) rfl
          clear hA
          unfold Oper.quietAt
          go_simp
        · refine RegQ.step_in (by kernel_rfl) ?_
          intro A hA W hW
          obtain ⟨qn, rfl⟩ := hW
          have r80 : A.tmps[80]?.getD undef = .pointer (some ⟨bA, oA + d1, none⟩) := RegQ.inG (j := 35) hA hsz rfl (by kernel_rfl) (by decide) rfl
          clear hA
          unfold Oper.quietAt
          go_simp
        · refine RegQ.step_in (by kernel_rfl) ?_
          intro A hA W hW
          obtain ⟨qn, rfl⟩ := hW
          have r81 : A.tmps[81]?.getD undef = .string z := RegQ.inG (j := 36) hA hsz rfl (by kernel_rfl) (by decide) rfl
          clear hA
          unfold Oper.quietAt
          go_simp
        · refine RegQ.step_in (by kernel_rfl) ?_
          intro A hA W hW
          obtain ⟨qn, rfl⟩ := hW
          have r76 : A.tmps[76]?.getD undef = .int .i64 (e1 : Int) := RegQ.inG (j := 31) hA hsz rfl (by kernel_rfl) (by decide) rfl
          have r82 : A.tmps[82]?.getD undef = .int .i64 (z.size : Int) := RegQ.inG (j := 37) hA hsz rfl (by kernel_rfl) (by decide) rfl
          clear hA
          unfold Oper.quietAt
          go_simp
        · refine RegQ.step_in (by kernel_rfl) ?_
          intro A hA W hW
          obtain ⟨qn, rfl⟩ := hW
          have r9 : A.tmps[9]?.getD undef = .pointer (some ⟨q, 0, none⟩) := RegQ.outG hA (by kernel_rfl) rfl
          clear hA
          unfold Oper.quietAt
          go_simp
        · refine RegQ.step_in (by kernel_rfl) ?_
          intro A hA W hW
          obtain ⟨qn, rfl⟩ := hW
          have r84 : A.tmps[84]?.getD undef = .pointer (some ⟨q, 0, none⟩) := RegQ.inG (j := 39) hA hsz rfl (by kernel_rfl) (by decide) rfl
          clear hA
          unfold Oper.quietAt
          go_simp
        · refine RegQ.step_in (by kernel_rfl) ?_
          intro A hA W hW
          obtain ⟨qn, rfl⟩ := hW
          have r74 : A.tmps[74]?.getD undef = .string b := RegQ.inG (j := 29) hA hsz rfl (by kernel_rfl) (by decide) rfl
          have r83 : A.tmps[83]?.getD undef = .int .i64 (em : Int) := RegQ.inG (j := 38) hA hsz rfl (by kernel_rfl) (by decide) rfl
          have r85 : A.tmps[85]?.getD undef = .int .i64 (e1 : Int) := RegQ.inG (j := 40) hA hsz rfl (by kernel_rfl) (by decide) rfl
          clear hA
          unfold Oper.quietAt
          go_simp
        · refine RegQ.step_in (by kernel_rfl) ?_
          intro A hA W hW
          obtain ⟨qn, rfl⟩ := hW
          have r0 : A.tmps[0]?.getD undef = .slice (some ⟨bA, oA, none⟩) n cap := RegQ.outG hA (by kernel_rfl) rfl
          clear hA
          unfold Oper.quietAt
          go_simp
        · refine RegQ.step_in (by kernel_rfl) ?_
          intro A hA W hW
          obtain ⟨qn, rfl⟩ := hW
          have r9 : A.tmps[9]?.getD undef = .pointer (some ⟨q, 0, none⟩) := RegQ.outG hA (by kernel_rfl) rfl
          clear hA
          unfold Oper.quietAt
          go_simp
        · refine RegQ.step_in (by kernel_rfl) ?_
          intro A hA W hW
          obtain ⟨qn, rfl⟩ := hW
          have r88 : A.tmps[88]?.getD undef = .pointer (some ⟨q, 1, none⟩) := RegQ.inG (j := 43) hA hsz rfl (by kernel_rfl) (by decide) rfl
          clear hA
          unfold Oper.quietAt
          go_simp
        · refine RegQ.step_in (by kernel_rfl) ?_
          intro A hA W hW
          obtain ⟨qn, rfl⟩ := hW
          have r87 : A.tmps[87]?.getD undef = .slice (some ⟨bA, oA, none⟩) n cap := RegQ.inG (j := 42) hA hsz rfl (by kernel_rfl) (by decide) rfl
          have r89 : A.tmps[89]?.getD undef = .int .i64 (d1 : Int) := RegQ.inG (j := 44) hA hsz rfl (by kernel_rfl) (by decide) rfl
          clear hA
          unfold Oper.quietAt
          go_simp
        · refine RegQ.step_in (by kernel_rfl) ?_
          intro A hA W hW
          obtain ⟨qn, rfl⟩ := hW
          have r90 : A.tmps[90]?.getD undef = .pointer (some ⟨bA, oA + d1, none⟩) := RegQ.inG (j := 45) hA hsz rfl (by kernel_rfl) (by decide) rfl
          clear hA
          unfold Oper.quietAt
          go_simp
        · refine RegQ.step_in (by kernel_rfl) ?_
          intro A hA W hW
          obtain ⟨qn, rfl⟩ := hW
          have r86 : A.tmps[86]?.getD undef = .string (b.extract em e1) := RegQ.inG (j := 41) hA hsz rfl (by kernel_rfl) (by decide) rfl
          have r91 : A.tmps[91]?.getD undef = .string z := RegQ.inG (j := 46) hA hsz rfl (by kernel_rfl) (by decide) rfl
          clear hA
          unfold Oper.quietAt
          go_simp
        · refine RegQ.step_in (by kernel_rfl) ?_
          intro A hA W hW
          obtain ⟨qn, rfl⟩ := hW
          have r73 : A.tmps[73]?.getD undef = .bool false := RegQ.inG (j := 28) hA hsz rfl (by kernel_rfl) (by decide) rfl
          have r92 : A.tmps[92]?.getD undef = .bool false := RegQ.inG (j := 47) hA hsz rfl (by kernel_rfl) (by decide) rfl
          clear hA
          unfold Oper.quietAt
          go_simp
        · refine RegQ.step_in (by kernel_rfl) ?_
          intro A hA W hW
          obtain ⟨qn, rfl⟩ := hW
          have r93 : A.tmps[93]?.getD undef = .bool false := RegQ.inG (j := 48) hA hsz rfl (by kernel_rfl) (by decide) rfl
          clear hA
          unfold Oper.quietAt
          go_simp
        · refine RegQ.step_in (by kernel_rfl) ?_
          intro A hA W hW
          obtain ⟨qn, rfl⟩ := hW
          have r8 : A.tmps[8]?.getD undef = .int .i64 (k : Int) := RegQ.outG hA (by kernel_rfl) rfl
          clear hA
          unfold Oper.quietAt
          go_simp
        · refine RegQ.step_in (by kernel_rfl) ?_
          intro A hA W hW
          obtain ⟨qn, rfl⟩ := hW
          have r95 : A.tmps[95]?.getD undef = .int .i64 (k : Int) := RegQ.inG (j := 50) hA hsz rfl (by kernel_rfl) (by decide) rfl
          clear hA
          unfold Oper.quietAt
          go_simp
        · refine RegQ.step_in (by kernel_rfl) ?_
          intro A hA W hW
          obtain ⟨qn, rfl⟩ := hW
          have r96 : A.tmps[96]?.getD undef = .bool false := RegQ.inG (j := 51) hA hsz rfl (by kernel_rfl) (by decide) rfl
          clear hA
          unfold Oper.quietAt
          go_simp
        · exact RegQ.step_no (by kernel_rfl) rfl
        · exact RegQ.step_no (by kernel_rfl) rfl
        · exact RegQ.step_no (by kernel_rfl) rfl
        · exact RegQ.step_no (by kernel_rfl) rfl
        · exact RegQ.step_no (by kernel_rfl) rfl
        · exact RegQ.step_no (by kernel_rfl) rfl
        · exact RegQ.step_no (by kernel_rfl) rfl
        · exact RegQ.step_no (by kernel_rfl) rfl
        · exact RegQ.step_no (by kernel_rfl) rfl
        · exact RegQ.step_no (by kernel_rfl) rfl
        · exact RegQ.step_no (by kernel_rfl) rfl
        · exact RegQ.step_no (by kernel_rfl) rfl
        · exact RegQ.step_no (by kernel_rfl) rfl
        · exact RegQ.step_no (by kernel_rfl) rfl
        · exact RegQ.step_no (by kernel_rfl) rfl
        · exact RegQ.step_no (by kernel_rfl) rfl
        · exact RegQ.step_no (by kernel_rfl) rfl
        · exact RegQ.step_no (by kernel_rfl) rfl
        · exact RegQ.step_no (by kernel_rfl) rfl
        · exact RegQ.step_no (by kernel_rfl) rfl
        · exact RegQ.step_no (by kernel_rfl) rfl
        · exact RegQ.step_no (by kernel_rfl) rfl
        · exact RegQ.step_no (by kernel_rfl) rfl
        · exact RegQ.step_no (by kernel_rfl) rfl
        · exact RegQ.step_no (by kernel_rfl) rfl
        · exact RegQ.step_no (by kernel_rfl) rfl
        · exact RegQ.step_no (by kernel_rfl) rfl
        · exact RegQ.step_no (by kernel_rfl) rfl
        · exact RegQ.step_no (by kernel_rfl) rfl
        · exact RegQ.step_no (by kernel_rfl) rfl
        · exact RegQ.step_no (by kernel_rfl) rfl
        · exact RegQ.step_no (by kernel_rfl) rfl
        · exact RegQ.step_no (by kernel_rfl) rfl
        · exact RegQ.step_no (by kernel_rfl) rfl
        · exact RegQ.step_no (by kernel_rfl) rfl
        · exact RegQ.step_no (by kernel_rfl) rfl
        · exact RegQ.step_no (by kernel_rfl) rfl
        · exact RegQ.step_no (by kernel_rfl) rfl
        · exact RegQ.step_no (by kernel_rfl) rfl
        · refine RegQ.step_in (by kernel_rfl) ?_
          intro A hA W hW
          obtain ⟨qn, rfl⟩ := hW
          have r97 : A.tmps[97]?.getD undef = .bool false := RegQ.inG (j := 52) hA hsz rfl (by kernel_rfl) (by decide) rfl
          have r136 : A.tmps[136]?.getD undef = undef := RegQ.inG (j := 91) hA hsz rfl (by kernel_rfl) (by decide) rfl
          clear hA
          unfold Oper.quietAt
          go_simp
        · refine RegQ.step_in (by kernel_rfl) ?_
          intro A hA W hW
          obtain ⟨qn, rfl⟩ := hW
          have r94 : A.tmps[94]?.getD undef = .bool false := RegQ.inG (j := 49) hA hsz rfl (by kernel_rfl) (by decide) rfl
          have r137 : A.tmps[137]?.getD undef = .bool false := RegQ.inG (j := 92) hA hsz rfl (by kernel_rfl) (by decide) rfl
          clear hA
          unfold Oper.quietAt
          go_simp
        · intro qn
          simp only [Reg.putS, List.foldl, List.getD_cons_zero, List.getD_cons_succ, Act.put, List.setIfInBounds_toArray, List.set_cons_zero, List.set_cons_succ]
          have b9 := drewN_below (n := qn) bW
          clear bW
          go_wp2_with fail
          go_roundg (nH - (k + 1))
          case measure => omega
          case rel => exact ⟨k + 1, hlt, Nat.le_refl _, by go_num, b9⟩
      · obtain ⟨j, hjk⟩ : ∃ j, k = j + 1 := ⟨k - 1, by omega⟩
        have u0 : decide ((k : Int) > 0) = true := decide_eq_true (by omega)
        have u0' : decide (0 < k) = true := decide_eq_true (by omega)
        have hjl : j < H.length := by omega
        have p1 := pw_cell_below brh.out (hch.out j hjl).1
        have p2 := pw_cell_below brh.out (hch.out j hjl).2
        have hxj : H.getD j (0, 0) ∈ H := by rw [List.getD_eq_getElem?_getD, List.getElem?_eq_getElem hjl]; exact List.getElem_mem hjl
        obtain ⟨q1, q2, q3, q4, _⟩ := hmem.out _ hxj
        have p3 := pw_cell_below brh.out (hcah.out _ q1)
        have hAj := hAh.out j hjk
        obtain ⟨y, hy⟩ : ∃ y, zs.getD (H.getD j (0, 0)).2 ByteArray.empty = y := ⟨_, rfl⟩
        have hyl : (zk zs (H.getD j (0, 0)).2).length = y.size := by unfold zk; rw [hy, size_list]
        rw [hy] at p3
        rw [hyl] at hAj
        clear hyl hy q2 q3 q4 hxj hk0
        generalize (H.getD j (0, 0)).1 = e0 at p1 hAj
        generalize (H.getD j (0, 0)).2 = d0 at p2 p3 q1
        have zj : IntKind.i64.wrap ((k : Int) - 1) = (j : Int) := by rw [IntKind.wrap_i64]; omega
        have hjn : j < nH := by omega
        have hjz : (j : Int) < (nH : Int) := by omega
        have hd0n : d0 < n := by have := hnh.out; omega
        have hd0z : (d0 : Int) < (n : Int) := by omega
        clear hjk
        rcases hAj with hlt0 | ⟨rfl, hlt0⟩
        · have v1 : decide ((e0 : Int) > (e1 : Int)) = false := decide_eq_false (by omega)
          have v2 : decide (e1 < e0) = false := decide_eq_false (by omega)
          have v3 : ((e0 : Int) == (e1 : Int)) = false := by simp; omega
          have v4 : (e0 == e1) = false := by simp; omega
          clear hjl hlt0 q1
          refine RegQ.wp_region_vals [some 45, some 46, some 47, some 48, some 49, some 50, some 51, some 52, some 53, some 54, some 55, some 56, some 57, some 58, some 59, some 60, some 61, some 62, some 63, some 64, some 65, some 66, some 67, some 68, some 69, some 70, some 71, some 72, some 73, some 74, some 75, some 76, some 77, some 78, some 79, some 80, some 81, some 82, some 83, some 84, some 85, some 86, some 87, some 88, some 89, some 90, some 91, some 92, some 93, some 94, some 95, some 96, some 97, some 98, some 99, some 100, some 101, some 102, some 103, some 104, some 105, some 106, some 107, some 108, some 109, some 110, some 111, some 112, some 113, some 114, some 115, some 116, some 117, some 118, some 119, some 120, some 121, some 122, some 123, some 124, some 125, some 126, some 127, some 128, some 129, some 130, some 131, some 132, some 133, some 134, some 135, some 136, some 137, some 138] [[], [0], [1], [2], [3], [4, 3], [3], [6, 3], [5, 7, 3], [3, 8], [9, 3], [10], [11, 10], [10], [13, 10], [12, 14, 10], [10, 15], [16, 10], [17], [18, 17], [17], [17], [21, 17], [20, 22, 17], [23, 17], [24, 17], [19, 25, 17], [17, 26], [27, 17], [28], [28], [30, 28], [28], [28], [33, 28], [32, 34, 28], [35, 28], [36, 28], [31, 37, 28], [28], [39, 28], [29, 38, 40, 28], [28], [28], [43, 28], [42, 44, 28], [45, 28], [41, 46, 28], [28, 47], [48, 28], [49], [50, 49], [51, 49, 49], [52], [52], [54, 52], [53, 55, 52], [56, 52], [57, 52], [52], [59, 52], [58, 60, 52], [61, 52, 52], [62], [62], [64, 62], [63, 65, 62], [66, 62], [67, 62], [62], [69, 62], [68, 70, 62], [71, 62, 62], [72], [72], [72], [75, 72], [74, 76, 72], [77, 72], [78, 72], [73, 79, 72], [80, 72], [81, 72], [72], [72], [84, 72], [83, 85, 72], [86, 72], [87, 72], [82, 88, 72], [72, 89, 62], [62, 90, 52], [52, 91, 49], [49, 92]] (fun iq => ([.pointer (some ⟨q, 1, none⟩), .int .i64 (d1 : Int), .bool false, .bool false, .pointer (some ⟨q, 1, none⟩), .int .i64 (d1 : Int), .slice (some ⟨bA, oA, none⟩) n cap, .int .i64 (n : Int), .bool false, .bool false, .bool false, .pointer (some ⟨q, 0, none⟩), .int .i64 (e1 : Int), .string b, .int .i64 (b.size : Int), .bool false, .bool false, .bool false, .pointer (some ⟨q, 0, none⟩), .int .i64 (e1 : Int), .slice (some ⟨bA, oA, none⟩) n cap, .pointer (some ⟨q, 1, none⟩), .int .i64 (d1 : Int), .pointer (some ⟨bA, oA + d1, none⟩), .string z, .int .i64 (z.size : Int), .bool false, .bool false, .bool false, .string b, .pointer (some ⟨q, 0, none⟩), .int .i64 (e1 : Int), .slice (some ⟨bA, oA, none⟩) n cap, .pointer (some ⟨q, 1, none⟩), .int .i64 (d1 : Int), .pointer (some ⟨bA, oA + d1, none⟩), .string z, .int .i64 (z.size : Int), .int .i64 (em : Int), .pointer (some ⟨q, 0, none⟩), .int .i64 (e1 : Int), .string (b.extract em e1), .slice (some ⟨bA, oA, none⟩) n cap, .pointer (some ⟨q, 1, none⟩), .int .i64 (d1 : Int), .pointer (some ⟨bA, oA + d1, none⟩), .string z, .bool false, .bool false, .bool false, .int .i64 (k : Int), .bool true, .bool true, .slice (some ⟨bV, oV, none⟩) nH cp, .int .i64 (k : Int), .int .i64 (j : Int), .pointer (some ⟨bV, oV + j * 2, none⟩), .pointer (some ⟨bV, oV + j * 2, none⟩), .int .i64 (e0 : Int), .pointer (some ⟨q, 0, none⟩), .int .i64 (e1 : Int), .bool false, .bool false, .slice (some ⟨bV, oV, none⟩) nH cp, .int .i64 (k : Int), .int .i64 (j : Int), .pointer (some ⟨bV, oV + j * 2, none⟩), .pointer (some ⟨bV, oV + j * 2, none⟩), .int .i64 (e0 : Int), .pointer (some ⟨q, 0, none⟩), .int .i64 (e1 : Int), .bool false, .bool false, undef, undef, undef, undef, undef, undef, undef, undef, undef, undef, undef, undef, undef, undef, undef, undef, undef, .bool false, .bool false, .bool false, .bool false] : List Value).getD iq undef) [0, 1, 2, 3, 4, 5, 6, 7, 8, 9, 10, 11, 12, 13, 14, 15, 16, 17, 18, 19, 20, 21, 22, 23, 24, 25, 26, 27, 28, 29, 30, 31, 32, 33, 34, 35, 36, 37, 38, 39, 40, 41, 42, 43, 44, 45, 46, 47, 48, 49, 50, 51, 52, 53, 54, 55, 56, 57, 58, 59, 60, 61, 62, 63, 64, 65, 66, 67, 68, 69, 70, 71, 72, 73, 74, 75, 76, 77, 78, 79, 80, 81, 82, 83, 84, 85, 86, 87, 88, 89, 90, 91, 92, 93] 177 rfl rfl (by kernel_rfl) (by kernel_rfl) (by kernel_rfl) (by kernel_rfl) (by kernel_rfl) (fun hsz hon => ⟨?_, ?_, ?_, ?_, ?_, ?_, ?_, ?_, ?_, ?_, ?_, ?_, ?_, ?_, ?_, ?_, ?_, ?_, ?_, ?_, ?_, ?_, ?_, ?_, ?_, ?_, ?_, ?_, ?_, ?_, ?_, ?_, ?_, ?_, ?_, ?_, ?_, ?_, ?_, ?_, ?_, ?_, ?_, ?_, ?_, ?_, ?_, ?_, ?_, ?_, ?_, ?_, ?_, ?_, ?_, ?_, ?_, ?_, ?_, ?_, ?_, ?_, ?_, ?_, ?_, ?_, ?_, ?_, ?_, ?_, ?_, ?_, ?_, ?_, ?_, ?_, ?_, ?_, ?_, ?_, ?_, ?_, ?_, ?_, ?_, ?_, ?_, ?_, ?_, ?_, ?_, ?_, ?_, ?_, trivial⟩) ?_
          · refine RegQ.step_in (by kernel_rfl) ?_
            intro A hA W hW
            obtain ⟨qn, rfl⟩ := hW
            have r9 : A.tmps[9]?.getD undef = .pointer (some ⟨q, 0, none⟩) := RegQ.outG hA (by kernel_rfl) rfl
            clear hA
            unfold Oper.quietAt
            go_simp
          · refine RegQ.step_in (by kernel_rfl) ?_
            intro A hA W hW
            obtain ⟨qn, rfl⟩ := hW
            have r45 : A.tmps[45]?.getD undef = .pointer (some ⟨q, 1, none⟩) := RegQ.inG (j := 0) hA hsz rfl (by kernel_rfl) (by decide) rfl
            clear hA
            unfold Oper.quietAt
            go_simp
          · refine RegQ.step_in (by kernel_rfl) ?_
            intro A hA W hW
            obtain ⟨qn, rfl⟩ := hW
            have r46 : A.tmps[46]?.getD undef = .int .i64 (d1 : Int) := RegQ.inG (j := 1) hA hsz rfl (by kernel_rfl) (by decide) rfl
            clear hA
            unfold Oper.quietAt
            go_simp
          · refine RegQ.step_in (by kernel_rfl) ?_
            intro A hA W hW
            obtain ⟨qn, rfl⟩ := hW
            have r47 : A.tmps[47]?.getD undef = .bool false := RegQ.inG (j := 2) hA hsz rfl (by kernel_rfl) (by decide) rfl
            clear hA
            unfold Oper.quietAt
            go_simp
          · refine RegQ.step_in (by kernel_rfl) ?_
            intro A hA W hW
            obtain ⟨qn, rfl⟩ := hW
            have r9 : A.tmps[9]?.getD undef = .pointer (some ⟨q, 0, none⟩) := RegQ.outG hA (by kernel_rfl) rfl
            clear hA
            unfold Oper.quietAt
            go_simp
          · refine RegQ.step_in (by kernel_rfl) ?_
            intro A hA W hW
            obtain ⟨qn, rfl⟩ := hW
            have r49 : A.tmps[49]?.getD undef = .pointer (some ⟨q, 1, none⟩) := RegQ.inG (j := 4) hA hsz rfl (by kernel_rfl) (by decide) rfl
            clear hA
            unfold Oper.quietAt
            go_simp
          · refine RegQ.step_in (by kernel_rfl) ?_
            intro A hA W hW
            obtain ⟨qn, rfl⟩ := hW
            have r0 : A.tmps[0]?.getD undef = .slice (some ⟨bA, oA, none⟩) n cap := RegQ.outG hA (by kernel_rfl) rfl
            clear hA
            unfold Oper.quietAt
            go_simp
          · refine RegQ.step_in (by kernel_rfl) ?_
            intro A hA W hW
            obtain ⟨qn, rfl⟩ := hW
            have r51 : A.tmps[51]?.getD undef = .slice (some ⟨bA, oA, none⟩) n cap := RegQ.inG (j := 6) hA hsz rfl (by kernel_rfl) (by decide) rfl
            clear hA
            unfold Oper.quietAt
            go_simp
          · refine RegQ.step_in (by kernel_rfl) ?_
            intro A hA W hW
            obtain ⟨qn, rfl⟩ := hW
            have r50 : A.tmps[50]?.getD undef = .int .i64 (d1 : Int) := RegQ.inG (j := 5) hA hsz rfl (by kernel_rfl) (by decide) rfl
            have r52 : A.tmps[52]?.getD undef = .int .i64 (n : Int) := RegQ.inG (j := 7) hA hsz rfl (by kernel_rfl) (by decide) rfl
            clear hA
            unfold Oper.quietAt
            go_simp
          · refine RegQ.step_in (by kernel_rfl) ?_
            intro A hA W hW
            obtain ⟨qn, rfl⟩ := hW
            have r48 : A.tmps[48]?.getD undef = .bool false := RegQ.inG (j := 3) hA hsz rfl (by kernel_rfl) (by decide) rfl
            have r53 : A.tmps[53]?.getD undef = .bool false := RegQ.inG (j := 8) hA hsz rfl (by kernel_rfl) (by decide) rfl
            clear hA
            unfold Oper.quietAt
            go_simp
          · refine RegQ.step_in (by kernel_rfl) ?_
            intro A hA W hW
            obtain ⟨qn, rfl⟩ := hW
            have r54 : A.tmps[54]?.getD undef = .bool false := RegQ.inG (j := 9) hA hsz rfl (by kernel_rfl) (by decide) rfl
            clear hA
            unfold Oper.quietAt
            go_simp
          · refine RegQ.step_in (by kernel_rfl) ?_
            intro A hA W hW
            obtain ⟨qn, rfl⟩ := hW
            have r9 : A.tmps[9]?.getD undef = .pointer (some ⟨q, 0, none⟩) := RegQ.outG hA (by kernel_rfl) rfl
            clear hA
            unfold Oper.quietAt
            go_simp
          · refine RegQ.step_in (by kernel_rfl) ?_
            intro A hA W hW
            obtain ⟨qn, rfl⟩ := hW
            have r56 : A.tmps[56]?.getD undef = .pointer (some ⟨q, 0, none⟩) := RegQ.inG (j := 11) hA hsz rfl (by kernel_rfl) (by decide) rfl
            clear hA
            unfold Oper.quietAt
            go_simp
          · refine RegQ.step_in (by kernel_rfl) ?_
            intro A hA W hW
            obtain ⟨qn, rfl⟩ := hW
            have r1 : A.tmps[1]?.getD undef = .string b := RegQ.outG hA (by kernel_rfl) rfl
            clear hA
            unfold Oper.quietAt
            go_simp
          · refine RegQ.step_in (by kernel_rfl) ?_
            intro A hA W hW
            obtain ⟨qn, rfl⟩ := hW
            have r58 : A.tmps[58]?.getD undef = .string b := RegQ.inG (j := 13) hA hsz rfl (by kernel_rfl) (by decide) rfl
            clear hA
            unfold Oper.quietAt
            go_simp
          · refine RegQ.step_in (by kernel_rfl) ?_
            intro A hA W hW
            obtain ⟨qn, rfl⟩ := hW
            have r57 : A.tmps[57]?.getD undef = .int .i64 (e1 : Int) := RegQ.inG (j := 12) hA hsz rfl (by kernel_rfl) (by decide) rfl
            have r59 : A.tmps[59]?.getD undef = .int .i64 (b.size : Int) := RegQ.inG (j := 14) hA hsz rfl (by kernel_rfl) (by decide) rfl
            clear hA
            unfold Oper.quietAt
            go_simp
          · refine RegQ.step_in (by kernel_rfl) ?_
            intro A hA W hW
            obtain ⟨qn, rfl⟩ := hW
            have r55 : A.tmps[55]?.getD undef = .bool false := RegQ.inG (j := 10) hA hsz rfl (by kernel_rfl) (by decide) rfl
            have r60 : A.tmps[60]?.getD undef = .bool false := RegQ.inG (j := 15) hA hsz rfl (by kernel_rfl) (by decide) rfl
            clear hA
            unfold Oper.quietAt
            go_simp
          · refine RegQ.step_in (by kernel_rfl) ?_
            intro A hA W hW
            obtain ⟨qn, rfl⟩ := hW
            have r61 : A.tmps[61]?.getD undef = .bool false := RegQ.inG (j := 16) hA hsz rfl (by kernel_rfl) (by decide) rfl
            clear hA
            unfold Oper.quietAt
            go_simp
          · refine RegQ.step_in (by kernel_rfl) ?_
            intro A hA W hW
            obtain ⟨qn, rfl⟩ := hW
            have r9 : A.tmps[9]?.getD undef = .pointer (some ⟨q, 0, none⟩) := RegQ.outG hA (by kernel_rfl) rfl
            clear hA
            unfold Oper.quietAt
            go_simp
          · refine RegQ.step_in (by kernel_rfl) ?_
            intro A hA W hW
            obtain ⟨qn, rfl⟩ := hW
            have r63 : A.tmps[63]?.getD undef = .pointer (some ⟨q, 0, none⟩) := RegQ.inG (j := 18) hA hsz rfl (by kernel_rfl) (by decide) rfl
            clear hA
            unfold Oper.quietAt
            go_simp
          · refine RegQ.step_in (by kernel_rfl) ?_
            intro A hA W hW
            obtain ⟨qn, rfl⟩ := hW
            have r0 : A.tmps[0]?.getD undef = .slice (some ⟨bA, oA, none⟩) n cap := RegQ.outG hA (by kernel_rfl) rfl
            clear hA
            unfold Oper.quietAt
            go_simp
          · refine RegQ.step_in (by kernel_rfl) ?_
            intro A hA W hW
            obtain ⟨qn, rfl⟩ := hW
            have r9 : A.tmps[9]?.getD undef = .pointer (some ⟨q, 0, none⟩) := RegQ.outG hA (by kernel_rfl) rfl
            clear hA
            unfold Oper.quietAt
            go_simp
          · refine RegQ.step_in (by kernel_rfl) ?_
            intro A hA W hW
            obtain ⟨qn, rfl⟩ := hW
            have r66 : A.tmps[66]?.getD undef = .pointer (some ⟨q, 1, none⟩) := RegQ.inG (j := 21) hA hsz rfl (by kernel_rfl) (by decide) rfl
            clear hA
            unfold Oper.quietAt
            go_simp
          · refine RegQ.step_in (by kernel_rfl) ?_
            intro A hA W hW
            obtain ⟨qn, rfl⟩ := hW
            have r65 : A.tmps[65]?.getD undef = .slice (some ⟨bA, oA, none⟩) n cap := RegQ.inG (j := 20) hA hsz rfl (by kernel_rfl) (by decide) rfl
            have r67 : A.tmps[67]?.getD undef = .int .i64 (d1 : Int) := RegQ.inG (j := 22) hA hsz rfl (by kernel_rfl) (by decide) rfl
            clear hA
            unfold Oper.quietAt
            go_simp
          · refine RegQ.step_in (by kernel_rfl) ?_
            intro A hA W hW
            obtain ⟨qn, rfl⟩ := hW
            have r68 : A.tmps[68]?.getD undef = .pointer (some ⟨bA, oA + d1, none⟩) := RegQ.inG (j := 23) hA hsz rfl (by kernel_rfl) (by decide) rfl
            clear hA
            unfold Oper.quietAt
            go_simp
          · refine RegQ.step_in (by kernel_rfl) ?_
            intro A hA W hW
            obtain ⟨qn, rfl⟩ := hW
            have r69 : A.tmps[69]?.getD undef = .string z := RegQ.inG (j := 24) hA hsz rfl (by kernel_rfl) (by decide) rfl
            clear hA
            unfold Oper.quietAt
            go_simp
          · refine RegQ.step_in (by kernel_rfl) ?_
            intro A hA W hW
            obtain ⟨qn, rfl⟩ := hW
            have r64 : A.tmps[64]?.getD undef = .int .i64 (e1 : Int) := RegQ.inG (j := 19) hA hsz rfl (by kernel_rfl) (by decide) rfl
            have r70 : A.tmps[70]?.getD undef = .int .i64 (z.size : Int) := RegQ.inG (j := 25) hA hsz rfl (by kernel_rfl) (by decide) rfl
            clear hA
            unfold Oper.quietAt
            go_simp
          · refine RegQ.step_in (by kernel_rfl) ?_
            intro A hA W hW
            obtain ⟨qn, rfl⟩ := hW
            have r62 : A.tmps[62]?.getD undef = .bool false := RegQ.inG (j := 17) hA hsz rfl (by kernel_rfl) (by decide) rfl
            have r71 : A.tmps[71]?.getD undef = .bool false := RegQ.inG (j := 26) hA hsz rfl (by kernel_rfl) (by decide) rfl
            clear hA
            unfold Oper.quietAt
            go_simp
          · refine RegQ.step_in (by kernel_rfl) ?_
            intro A hA W hW
            obtain ⟨qn, rfl⟩ := hW
            have r72 : A.tmps[72]?.getD undef = .bool false := RegQ.inG (j := 27) hA hsz rfl (by kernel_rfl) (by decide) rfl
            clear hA
            unfold Oper.quietAt
            go_simp
          · refine RegQ.step_in (by kernel_rfl) ?_
            intro A hA W hW
            obtain ⟨qn, rfl⟩ := hW
            have r1 : A.tmps[1]?.getD undef = .string b := RegQ.outG hA (by kernel_rfl) rfl
            clear hA
            unfold Oper.quietAt
            go_simp
          · refine RegQ.step_in (by kernel_rfl) ?_
            intro A hA W hW
            obtain ⟨qn, rfl⟩ := hW
            have r9 : A.tmps[9]?.getD undef = .pointer (some ⟨q, 0, none⟩) := RegQ.outG hA (by kernel_rfl) rfl
            clear hA
            unfold Oper.quietAt
            go_simp
          · refine RegQ.step_in (by kernel_rfl) ?_
            intro A hA W hW
            obtain ⟨qn, rfl⟩ := hW
            have r75 : A.tmps[75]?.getD undef = .pointer (some ⟨q, 0, none⟩) := RegQ.inG (j := 30) hA hsz rfl (by kernel_rfl) (by decide) rfl
            clear hA
            unfold Oper.quietAt
            go_simp
          · refine RegQ.step_in (by kernel_rfl) ?_
            intro A hA W hW
            obtain ⟨qn, rfl⟩ := hW
            have r0 : A.tmps[0]?.getD undef = .slice (some ⟨bA, oA, none⟩) n cap := RegQ.outG hA (by kernel_rfl) rfl
            clear hA
            unfold Oper.quietAt
            go_simp
          · refine RegQ.step_in (by kernel_rfl) ?_
            intro A hA W hW
            obtain ⟨qn, rfl⟩ := hW
            have r9 : A.tmps[9]?.getD undef = .pointer (some ⟨q, 0, none⟩) := RegQ.outG hA (by kernel_rfl) rfl
            clear hA
            unfold Oper.quietAt
            go_simp
          · refine RegQ.step_in (by kernel_rfl) ?_
            intro A hA W hW
            obtain ⟨qn, rfl⟩ := hW
            have r78 : A.tmps[78]?.getD undef = .pointer (some ⟨q, 1, none⟩) := RegQ.inG (j := 33) hA hsz rfl (by kernel_rfl) (by decide) rfl
            clear hA
            unfold Oper.quietAt
            go_simp
          · refine RegQ.step_in (by kernel_rfl) ?_
            intro A hA W hW
            obtain ⟨qn, rfl⟩ := hW
            have r77 : A.tmps[77]?.getD undef = .slice (some ⟨bA, oA, none⟩) n cap := RegQ.inG (j := 32) hA hsz rfl (by kernel_rfl) (by decide) rfl
            have r79 : A.tmps[79]?.getD undef = .int .i64 (d1 : Int) := RegQ.inG (j := 34) hA hsz rfl (by kernel_rfl) (by decide) rfl
            clear hA
            unfold Oper.quietAt
            go_simp
          · refine RegQ.step_in (by kernel_rfl) ?_
            intro A hA W hW
            obtain ⟨qn, rfl⟩ := hW
            have r80 : A.tmps[80]?.getD undef = .pointer (some ⟨bA, oA + d1, none⟩) := RegQ.inG (j := 35) hA hsz rfl (by kernel_rfl) (by decide) rfl
            clear hA
            unfold Oper.quietAt
            go_simp
          · refine RegQ.step_in (by kernel_rfl) ?_
            intro A hA W hW
            obtain ⟨qn, rfl⟩ := hW
            have r81 : A.tmps[81]?.getD undef = .string z := RegQ.inG (j := 36) hA hsz rfl (by kernel_rfl) (by decide) rfl
            clear hA
            unfold Oper.quietAt
            go_simp
          · refine RegQ.step_in (by kernel_rfl) ?_
            intro A hA W hW
            obtain ⟨qn, rfl⟩ := hW
            have r76 : A.tmps[76]?.getD undef = .int .i64 (e1 : Int) := RegQ.inG (j := 31) hA hsz rfl (by kernel_rfl) (by decide) rfl
            have r82 : A.tmps[82]?.getD undef = .int .i64 (z.size : Int) := RegQ.inG (j := 37) hA hsz rfl (by kernel_rfl) (by decide) rfl
            clear hA
            unfold Oper.quietAt
            go_simp
          · refine RegQ.step_in (by kernel_rfl) ?_
            intro A hA W hW
            obtain ⟨qn, rfl⟩ := hW
            have r9 : A.tmps[9]?.getD undef = .pointer (some ⟨q, 0, none⟩) := RegQ.outG hA (by kernel_rfl) rfl
            clear hA
            unfold Oper.quietAt
            go_simp
          · refine RegQ.step_in (by kernel_rfl) ?_
            intro A hA W hW
            obtain ⟨qn, rfl⟩ := hW
            have r84 : A.tmps[84]?.getD undef = .pointer (some ⟨q, 0, none⟩) := RegQ.inG (j := 39) hA hsz rfl (by kernel_rfl) (by decide) rfl
            clear hA
            unfold Oper.quietAt
            go_simp
          · refine RegQ.step_in (by kernel_rfl) ?_
            intro A hA W hW
            obtain ⟨qn, rfl⟩ := hW
            have r74 : A.tmps[74]?.getD undef = .string b := RegQ.inG (j := 29) hA hsz rfl (by kernel_rfl) (by decide) rfl
            have r83 : A.tmps[83]?.getD undef = .int .i64 (em : Int) := RegQ.inG (j := 38) hA hsz rfl (by kernel_rfl) (by decide) rfl
            have r85 : A.tmps[85]?.getD undef = .int .i64 (e1 : Int) := RegQ.inG (j := 40) hA hsz rfl (by kernel_rfl) (by decide) rfl
            clear hA
            unfold Oper.quietAt
            go_simp
          · refine RegQ.step_in (by kernel_rfl) ?_
            intro A hA W hW
            obtain ⟨qn, rfl⟩ := hW
            have r0 : A.tmps[0]?.getD undef = .slice (some ⟨bA, oA, none⟩) n cap := RegQ.outG hA (by kernel_rfl) rfl
            clear hA
            unfold Oper.quietAt
            go_simp
          · refine RegQ.step_in (by kernel_rfl) ?_
            intro A hA W hW
            obtain ⟨qn, rfl⟩ := hW
            have r9 : A.tmps[9]?.getD undef = .pointer (some ⟨q, 0, none⟩) := RegQ.outG hA (by kernel_rfl) rfl
            clear hA
            unfold Oper.quietAt
            go_simp
          · refine RegQ.step_in (by kernel_rfl) ?_
            intro A hA W hW
            obtain ⟨qn, rfl⟩ := hW
            have r88 : A.tmps[88]?.getD undef = .pointer (some ⟨q, 1, none⟩) := RegQ.inG (j := 43) hA hsz rfl (by kernel_rfl) (by decide) rfl
            clear hA
            unfold Oper.quietAt
            go_simp
          · refine RegQ.step_in (by kernel_rfl) ?_
            intro A hA W hW
            obtain ⟨qn, rfl⟩ := hW
            have r87 : A.tmps[87]?.getD undef = .slice (some ⟨bA, oA, none⟩) n cap := RegQ.inG (j := 42) hA hsz rfl (by kernel_rfl) (by decide) rfl
            have r89 : A.tmps[89]?.getD undef = .int .i64 (d1 : Int) := RegQ.inG (j := 44) hA hsz rfl (by kernel_rfl) (by decide) rfl
            clear hA
            unfold Oper.quietAt
            go_simp
          · refine RegQ.step_in (by kernel_rfl) ?_
            intro A hA W hW
            obtain ⟨qn, rfl⟩ := hW
            have r90 : A.tmps[90]?.getD undef = .pointer (some ⟨bA, oA + d1, none⟩) := RegQ.inG (j := 45) hA hsz rfl (by kernel_rfl) (by decide) rfl
            clear hA
            unfold Oper.quietAt
            go_simp
          · refine RegQ.step_in (by kernel_rfl) ?_
            intro A hA W hW
            obtain ⟨qn, rfl⟩ := hW
            have r86 : A.tmps[86]?.getD undef = .string (b.extract em e1) := RegQ.inG (j := 41) hA hsz rfl (by kernel_rfl) (by decide) rfl
            have r91 : A.tmps[91]?.getD undef = .string z := RegQ.inG (j := 46) hA hsz rfl (by kernel_rfl) (by decide) rfl
            clear hA
            unfold Oper.quietAt
            go_simp
          · refine RegQ.step_in (by kernel_rfl) ?_
            intro A hA W hW
            obtain ⟨qn, rfl⟩ := hW
            have r73 : A.tmps[73]?.getD undef = .bool false := RegQ.inG (j := 28) hA hsz rfl (by kernel_rfl) (by decide) rfl
            have r92 : A.tmps[92]?.getD undef = .bool false := RegQ.inG (j := 47) hA hsz rfl (by kernel_rfl) (by decide) rfl
            clear hA
            unfold Oper.quietAt
            go_simp
          · refine RegQ.step_in (by kernel_rfl) ?_
            intro A hA W hW
            obtain ⟨qn, rfl⟩ := hW
            have r93 : A.tmps[93]?.getD undef = .bool false := RegQ.inG (j := 48) hA hsz rfl (by kernel_rfl) (by decide) rfl
            clear hA
            unfold Oper.quietAt
            go_simp
          · refine RegQ.step_in (by kernel_rfl) ?_
            intro A hA W hW
            obtain ⟨qn, rfl⟩ := hW
            have r8 : A.tmps[8]?.getD undef = .int .i64 (k : Int) := RegQ.outG hA (by kernel_rfl) rfl
            clear hA
            unfold Oper.quietAt
            go_simp
          · refine RegQ.step_in (by kernel_rfl) ?_
            intro A hA W hW
            obtain ⟨qn, rfl⟩ := hW
            have r95 : A.tmps[95]?.getD undef = .int .i64 (k : Int) := RegQ.inG (j := 50) hA hsz rfl (by kernel_rfl) (by decide) rfl
            clear hA
            unfold Oper.quietAt
            go_simp
          · refine RegQ.step_in (by kernel_rfl) ?_
            intro A hA W hW
            obtain ⟨qn, rfl⟩ := hW
            have r96 : A.tmps[96]?.getD undef = .bool true := RegQ.inG (j := 51) hA hsz rfl (by kernel_rfl) (by decide) rfl
            clear hA
            unfold Oper.quietAt
            go_simp
          · refine RegQ.step_in (by kernel_rfl) ?_
            intro A hA W hW
            obtain ⟨qn, rfl⟩ := hW
            have r7 : A.tmps[7]?.getD undef = .slice (some ⟨bV, oV, none⟩) nH cp := RegQ.outG hA (by kernel_rfl) rfl
            clear hA
            unfold Oper.quietAt
            go_simp
          · refine RegQ.step_in (by kernel_rfl) ?_
            intro A hA W hW
            obtain ⟨qn, rfl⟩ := hW
            have r8 : A.tmps[8]?.getD undef = .int .i64 (k : Int) := RegQ.outG hA (by kernel_rfl) rfl
            clear hA
            unfold Oper.quietAt
            go_simp
          · refine RegQ.step_in (by kernel_rfl) ?_
            intro A hA W hW
            obtain ⟨qn, rfl⟩ := hW
            have r99 : A.tmps[99]?.getD undef = .int .i64 (k : Int) := RegQ.inG (j := 54) hA hsz rfl (by kernel_rfl) (by decide) rfl
            clear hA
            unfold Oper.quietAt
            go_simp
          · refine RegQ.step_in (by kernel_rfl) ?_
            intro A hA W hW
            obtain ⟨qn, rfl⟩ := hW
            have r98 : A.tmps[98]?.getD undef = .slice (some ⟨bV, oV, none⟩) nH cp := RegQ.inG (j := 53) hA hsz rfl (by kernel_rfl) (by decide) rfl
            have r100 : A.tmps[100]?.getD undef = .int .i64 (j : Int) := RegQ.inG (j := 55) hA hsz rfl (by kernel_rfl) (by decide) rfl
            clear hA
            unfold Oper.quietAt
            go_simp
          · refine RegQ.step_in (by kernel_rfl) ?_
            intro A hA W hW
            obtain ⟨qn, rfl⟩ := hW
            have r101 : A.tmps[101]?.getD undef = .pointer (some ⟨bV, oV + j * 2, none⟩) := RegQ.inG (j := 56) hA hsz rfl (by kernel_rfl) (by decide) rfl
            clear hA
            unfold Oper.quietAt
            go_simp
          · refine RegQ.step_in (by kernel_rfl) ?_
            intro A hA W hW
            obtain ⟨qn, rfl⟩ := hW
            have r102 : A.tmps[102]?.getD undef = .pointer (some ⟨bV, oV + j * 2, none⟩) := RegQ.inG (j := 57) hA hsz rfl (by kernel_rfl) (by decide) rfl
            clear hA
            unfold Oper.quietAt
            go_simp
          · refine RegQ.step_in (by kernel_rfl) ?_
            intro A hA W hW
            obtain ⟨qn, rfl⟩ := hW
            have r9 : A.tmps[9]?.getD undef = .pointer (some ⟨q, 0, none⟩) := RegQ.outG hA (by kernel_rfl) rfl
            clear hA
            unfold Oper.quietAt
            go_simp
          · refine RegQ.step_in (by kernel_rfl) ?_
            intro A hA W hW
            obtain ⟨qn, rfl⟩ := hW
            have r104 : A.tmps[104]?.getD undef = .pointer (some ⟨q, 0, none⟩) := RegQ.inG (j := 59) hA hsz rfl (by kernel_rfl) (by decide) rfl
            clear hA
            unfold Oper.quietAt
            go_simp
          · refine RegQ.step_in (by kernel_rfl) ?_
            intro A hA W hW
            obtain ⟨qn, rfl⟩ := hW
            have r103 : A.tmps[103]?.getD undef = .int .i64 (e0 : Int) := RegQ.inG (j := 58) hA hsz rfl (by kernel_rfl) (by decide) rfl
            have r105 : A.tmps[105]?.getD undef = .int .i64 (e1 : Int) := RegQ.inG (j := 60) hA hsz rfl (by kernel_rfl) (by decide) rfl
            clear hA
            unfold Oper.quietAt
            go_simp
          · refine RegQ.step_in (by kernel_rfl) ?_
            intro A hA W hW
            obtain ⟨qn, rfl⟩ := hW
            have r106 : A.tmps[106]?.getD undef = .bool false := RegQ.inG (j := 61) hA hsz rfl (by kernel_rfl) (by decide) rfl
            clear hA
            unfold Oper.quietAt
            go_simp
          · refine RegQ.step_in (by kernel_rfl) ?_
            intro A hA W hW
            obtain ⟨qn, rfl⟩ := hW
            have r7 : A.tmps[7]?.getD undef = .slice (some ⟨bV, oV, none⟩) nH cp := RegQ.outG hA (by kernel_rfl) rfl
            clear hA
            unfold Oper.quietAt
            go_simp
          · refine RegQ.step_in (by kernel_rfl) ?_
            intro A hA W hW
            obtain ⟨qn, rfl⟩ := hW
            have r8 : A.tmps[8]?.getD undef = .int .i64 (k : Int) := RegQ.outG hA (by kernel_rfl) rfl
            clear hA
            unfold Oper.quietAt
            go_simp
          · refine RegQ.step_in (by kernel_rfl) ?_
            intro A hA W hW
            obtain ⟨qn, rfl⟩ := hW
            have r109 : A.tmps[109]?.getD undef = .int .i64 (k : Int) := RegQ.inG (j := 64) hA hsz rfl (by kernel_rfl) (by decide) rfl
            clear hA
            unfold Oper.quietAt
            go_simp
          · refine RegQ.step_in (by kernel_rfl) ?_
            intro A hA W hW
            obtain ⟨qn, rfl⟩ := hW
            have r108 : A.tmps[108]?.getD undef = .slice (some ⟨bV, oV, none⟩) nH cp := RegQ.inG (j := 63) hA hsz rfl (by kernel_rfl) (by decide) rfl
            have r110 : A.tmps[110]?.getD undef = .int .i64 (j : Int) := RegQ.inG (j := 65) hA hsz rfl (by kernel_rfl) (by decide) rfl
            clear hA
            unfold Oper.quietAt
            go_simp
          · refine RegQ.step_in (by kernel_rfl) ?_
            intro A hA W hW
            obtain ⟨qn, rfl⟩ := hW
            have r111 : A.tmps[111]?.getD undef = .pointer (some ⟨bV, oV + j * 2, none⟩) := RegQ.inG (j := 66) hA hsz rfl (by kernel_rfl) (by decide) rfl
            clear hA
            unfold Oper.quietAt
            go_simp
          · refine RegQ.step_in (by kernel_rfl) ?_
            intro A hA W hW
            obtain ⟨qn, rfl⟩ := hW
            have r112 : A.tmps[112]?.getD undef = .pointer (some ⟨bV, oV + j * 2, none⟩) := RegQ.inG (j := 67) hA hsz rfl (by kernel_rfl) (by decide) rfl
            clear hA
            unfold Oper.quietAt
            go_simp
          · refine RegQ.step_in (by kernel_rfl) ?_
            intro A hA W hW
            obtain ⟨qn, rfl⟩ := hW
            have r9 : A.tmps[9]?.getD undef = .pointer (some ⟨q, 0, none⟩) := RegQ.outG hA (by kernel_rfl) rfl
            clear hA
            unfold Oper.quietAt
            go_simp
          · refine RegQ.step_in (by kernel_rfl) ?_
            intro A hA W hW
            obtain ⟨qn, rfl⟩ := hW
            have r114 : A.tmps[114]?.getD undef = .pointer (some ⟨q, 0, none⟩) := RegQ.inG (j := 69) hA hsz rfl (by kernel_rfl) (by decide) rfl
            clear hA
            unfold Oper.quietAt
            go_simp
          · refine RegQ.step_in (by kernel_rfl) ?_
            intro A hA W hW
            obtain ⟨qn, rfl⟩ := hW
            have r113 : A.tmps[113]?.getD undef = .int .i64 (e0 : Int) := RegQ.inG (j := 68) hA hsz rfl (by kernel_rfl) (by decide) rfl
            have r115 : A.tmps[115]?.getD undef = .int .i64 (e1 : Int) := RegQ.inG (j := 70) hA hsz rfl (by kernel_rfl) (by decide) rfl
            clear hA
            unfold Oper.quietAt
            go_simp
          · refine RegQ.step_in (by kernel_rfl) ?_
            intro A hA W hW
            obtain ⟨qn, rfl⟩ := hW
            have r116 : A.tmps[116]?.getD undef = .bool false := RegQ.inG (j := 71) hA hsz rfl (by kernel_rfl) (by decide) rfl
            clear hA
            unfold Oper.quietAt
            go_simp
          · exact RegQ.step_no (by kernel_rfl) rfl
          · exact RegQ.step_no (by kernel_rfl) rfl
          · exact RegQ.step_no (by kernel_rfl) rfl
          · exact RegQ.step_no (by kernel_rfl) rfl
          · exact RegQ.step_no (by kernel_rfl) rfl
          · exact RegQ.step_no (by kernel_rfl) rfl
          · exact RegQ.step_no (by kernel_rfl) rfl
          · exact RegQ.step_no (by kernel_rfl) rfl
          · exact RegQ.step_no (by kernel_rfl) rfl
          · exact RegQ.step_no (by kernel_rfl) rfl
          · exact RegQ.step_no (by kernel_rfl) rfl
          · exact RegQ.step_no (by kernel_rfl) rfl
          · exact RegQ.step_no (by kernel_rfl) rfl
          · exact RegQ.step_no (by kernel_rfl) rfl
          · exact RegQ.step_no (by kernel_rfl) rfl
          · exact RegQ.step_no (by kernel_rfl) rfl
          · exact RegQ.step_no (by kernel_rfl) rfl
          · refine RegQ.step_in (by kernel_rfl) ?_
            intro A hA W hW
            obtain ⟨qn, rfl⟩ := hW
            have r117 : A.tmps[117]?.getD undef = .bool false := RegQ.inG (j := 72) hA hsz rfl (by kernel_rfl) (by decide) rfl
            have r134 : A.tmps[134]?.getD undef = undef := RegQ.inG (j := 89) hA hsz rfl (by kernel_rfl) (by decide) rfl
            clear hA
            unfold Oper.quietAt
            go_simp
          · refine RegQ.step_in (by kernel_rfl) ?_
            intro A hA W hW
            obtain ⟨qn, rfl⟩ := hW
            have r107 : A.tmps[107]?.getD undef = .bool false := RegQ.inG (j := 62) hA hsz rfl (by kernel_rfl) (by decide) rfl
            have r135 : A.tmps[135]?.getD undef = .bool false := RegQ.inG (j := 90) hA hsz rfl (by kernel_rfl) (by decide) rfl
            clear hA
            unfold Oper.quietAt
            go_simp
          · refine RegQ.step_in (by kernel_rfl) ?_
            intro A hA W hW
            obtain ⟨qn, rfl⟩ := hW
            have r97 : A.tmps[97]?.getD undef = .bool true := RegQ.inG (j := 52) hA hsz rfl (by kernel_rfl) (by decide) rfl
            have r136 : A.tmps[136]?.getD undef = .bool false := RegQ.inG (j := 91) hA hsz rfl (by kernel_rfl) (by decide) rfl
            clear hA
            unfold Oper.quietAt
            go_simp
          · refine RegQ.step_in (by kernel_rfl) ?_
            intro A hA W hW
            obtain ⟨qn, rfl⟩ := hW
            have r94 : A.tmps[94]?.getD undef = .bool false := RegQ.inG (j := 49) hA hsz rfl (by kernel_rfl) (by decide) rfl
            have r137 : A.tmps[137]?.getD undef = .bool false := RegQ.inG (j := 92) hA hsz rfl (by kernel_rfl) (by decide) rfl
            clear hA
            unfold Oper.quietAt
            go_simp
          · intro qn
            simp only [Reg.putS, List.foldl, List.getD_cons_zero, List.getD_cons_succ, Act.put, List.setIfInBounds_toArray, List.set_cons_zero, List.set_cons_succ]
            have b9 := drewN_below (n := qn) bW
            clear bW
            go_wp2_with fail
            go_roundg (nH - (k + 1))
            case measure => omega
            case rel => exact ⟨k + 1, hlt, Nat.le_refl _, by go_num, b9⟩
        · have v1 : decide ((e0 : Int) > (e0 : Int)) = false := decide_eq_false (by omega)
          have v2 : decide (e0 < e0) = false := decide_eq_false (by omega)
          have v3 : ((e0 : Int) == (e0 : Int)) = true := by simp
          have v5 : decide ((y.size : Int) ≤ (z.size : Int)) = false := decide_eq_false (by omega)
          have v6 : decide (y.size ≤ z.size) = false := decide_eq_false (by omega)
          clear hjl hlt0 q1
          refine RegQ.wp_region_vals [some 45, some 46, some 47, some 48, some 49, some 50, some 51, some 52, some 53, some 54, some 55, some 56, some 57, some 58, some 59, some 60, some 61, some 62, some 63, some 64, some 65, some 66, some 67, some 68, some 69, some 70, some 71, some 72, some 73, some 74, some 75, some 76, some 77, some 78, some 79, some 80, some 81, some 82, some 83, some 84, some 85, some 86, some 87, some 88, some 89, some 90, some 91, some 92, some 93, some 94, some 95, some 96, some 97, some 98, some 99, some 100, some 101, some 102, some 103, some 104, some 105, some 106, some 107, some 108, some 109, some 110, some 111, some 112, some 113, some 114, some 115, some 116, some 117, some 118, some 119, some 120, some 121, some 122, some 123, some 124, some 125, some 126, some 127, some 128, some 129, some 130, some 131, some 132, some 133, some 134, some 135, some 136, some 137, some 138] [[], [0], [1], [2], [3], [4, 3], [3], [6, 3], [5, 7, 3], [3, 8], [9, 3], [10], [11, 10], [10], [13, 10], [12, 14, 10], [10, 15], [16, 10], [17], [18, 17], [17], [17], [21, 17], [20, 22, 17], [23, 17], [24, 17], [19, 25, 17], [17, 26], [27, 17], [28], [28], [30, 28], [28], [28], [33, 28], [32, 34, 28], [35, 28], [36, 28], [31, 37, 28], [28], [39, 28], [29, 38, 40, 28], [28], [28], [43, 28], [42, 44, 28], [45, 28], [41, 46, 28], [28, 47], [48, 28], [49], [50, 49], [51, 49, 49], [52], [52], [54, 52], [53, 55, 52], [56, 52], [57, 52], [52], [59, 52], [58, 60, 52], [61, 52, 52], [62], [62], [64, 62], [63, 65, 62], [66, 62], [67, 62], [62], [69, 62], [68, 70, 62], [71, 62, 62], [72], [72], [72], [75, 72], [74, 76, 72], [77, 72], [78, 72], [73, 79, 72], [80, 72], [81, 72], [72], [72], [84, 72], [83, 85, 72], [86, 72], [87, 72], [82, 88, 72], [72, 89, 62], [62, 90, 52], [52, 91, 49], [49, 92]] (fun iq => ([.pointer (some ⟨q, 1, none⟩), .int .i64 (d1 : Int), .bool false, .bool false, .pointer (some ⟨q, 1, none⟩), .int .i64 (d1 : Int), .slice (some ⟨bA, oA, none⟩) n cap, .int .i64 (n : Int), .bool false, .bool false, .bool false, .pointer (some ⟨q, 0, none⟩), .int .i64 (e0 : Int), .string b, .int .i64 (b.size : Int), .bool false, .bool false, .bool false, .pointer (some ⟨q, 0, none⟩), .int .i64 (e0 : Int), .slice (some ⟨bA, oA, none⟩) n cap, .pointer (some ⟨q, 1, none⟩), .int .i64 (d1 : Int), .pointer (some ⟨bA, oA + d1, none⟩), .string z, .int .i64 (z.size : Int), .bool false, .bool false, .bool false, .string b, .pointer (some ⟨q, 0, none⟩), .int .i64 (e0 : Int), .slice (some ⟨bA, oA, none⟩) n cap, .pointer (some ⟨q, 1, none⟩), .int .i64 (d1 : Int), .pointer (some ⟨bA, oA + d1, none⟩), .string z, .int .i64 (z.size : Int), .int .i64 (em : Int), .pointer (some ⟨q, 0, none⟩), .int .i64 (e0 : Int), .string (b.extract em e0), .slice (some ⟨bA, oA, none⟩) n cap, .pointer (some ⟨q, 1, none⟩), .int .i64 (d1 : Int), .pointer (some ⟨bA, oA + d1, none⟩), .string z, .bool false, .bool false, .bool false, .int .i64 (k : Int), .bool true, .bool true, .slice (some ⟨bV, oV, none⟩) nH cp, .int .i64 (k : Int), .int .i64 (j : Int), .pointer (some ⟨bV, oV + j * 2, none⟩), .pointer (some ⟨bV, oV + j * 2, none⟩), .int .i64 (e0 : Int), .pointer (some ⟨q, 0, none⟩), .int .i64 (e0 : Int), .bool false, .bool false, .slice (some ⟨bV, oV, none⟩) nH cp, .int .i64 (k : Int), .int .i64 (j : Int), .pointer (some ⟨bV, oV + j * 2, none⟩), .pointer (some ⟨bV, oV + j * 2, none⟩), .int .i64 (e0 : Int), .pointer (some ⟨q, 0, none⟩), .int .i64 (e0 : Int), .bool true, .bool true, .slice (some ⟨bA, oA, none⟩) n cap, .slice (some ⟨bV, oV, none⟩) nH cp, .int .i64 (k : Int), .int .i64 (j : Int), .pointer (some ⟨bV, oV + j * 2, none⟩), .pointer (some ⟨bV, oV + j * 2 + 1, none⟩), .int .i64 (d0 : Int), .pointer (some ⟨bA, oA + d0, none⟩), .string y, .int .i64 (y.size : Int), .slice (some ⟨bA, oA, none⟩) n cap, .pointer (some ⟨q, 1, none⟩), .int .i64 (d1 : Int), .pointer (some ⟨bA, oA + d1, none⟩), .string z, .int .i64 (z.size : Int), .bool false, .bool false, .bool false, .bool false, .bool false] : List Value).getD iq undef) [0, 1, 2, 3, 4, 5, 6, 7, 8, 9, 10, 11, 12, 13, 14, 15, 16, 17, 18, 19, 20, 21, 22, 23, 24, 25, 26, 27, 28, 29, 30, 31, 32, 33, 34, 35, 36, 37, 38, 39, 40, 41, 42, 43, 44, 45, 46, 47, 48, 49, 50, 51, 52, 53, 54, 55, 56, 57, 58, 59, 60, 61, 62, 63, 64, 65, 66, 67, 68, 69, 70, 71, 72, 73, 74, 75, 76, 77, 78, 79, 80, 81, 82, 83, 84, 85, 86, 87, 88, 89, 90, 91, 92, 93] 177 rfl rfl (by kernel_rfl) (by kernel_rfl) (by kernel_rfl) (by kernel_rfl) (by kernel_rfl) (fun hsz hon => ⟨?_, ?_, ?_, ?_, ?_, ?_, ?_, ?_, ?_, ?_, ?_, ?_, ?_, ?_, ?_, ?_, ?_, ?_, ?_, ?_, ?_, ?_, ?_, ?_, ?_, ?_, ?_, ?_, ?_, ?_, ?_, ?_, ?_, ?_, ?_, ?_, ?_, ?_, ?_, ?_, ?_, ?_, ?_, ?_, ?_, ?_, ?_, ?_, ?_, ?_, ?_, ?_, ?_, ?_, ?_, ?_, ?_, ?_, ?_, ?_, ?_, ?_, ?_, ?_, ?_, ?_, ?_, ?_, ?_, ?_, ?_, ?_, ?_, ?_, ?_, ?_, ?_, ?_, ?_, ?_, ?_, ?_, ?_, ?_, ?_, ?_, ?_, ?_, ?_, ?_, ?_, ?_, ?_, ?_, trivial⟩) ?_
          · refine RegQ.step_in (by kernel_rfl) ?_
            intro A hA W hW
            obtain ⟨qn, rfl⟩ := hW
            have r9 : A.tmps[9]?.getD undef = .pointer (some ⟨q, 0, none⟩) := RegQ.outG hA (by kernel_rfl) rfl
            clear hA
            unfold Oper.quietAt
            go_simp
          · refine RegQ.step_in (by kernel_rfl) ?_
            intro A hA W hW
            obtain ⟨qn, rfl⟩ := hW
            have r45 : A.tmps[45]?.getD undef = .pointer (some ⟨q, 1, none⟩) := RegQ.inG (j := 0) hA hsz rfl (by kernel_rfl) (by decide) rfl
            clear hA
            unfold Oper.quietAt
            go_simp
          · refine RegQ.step_in (by kernel_rfl) ?_
            intro A hA W hW
            obtain ⟨qn, rfl⟩ := hW
            have r46 : A.tmps[46]?.getD undef = .int .i64 (d1 : Int) := RegQ.inG (j := 1) hA hsz rfl (by kernel_rfl) (by decide) rfl
            clear hA
            unfold Oper.quietAt
            go_simp
          · refine RegQ.step_in (by kernel_rfl) ?_
            intro A hA W hW
            obtain ⟨qn, rfl⟩ := hW
            have r47 : A.tmps[47]?.getD undef = .bool false := RegQ.inG (j := 2) hA hsz rfl (by kernel_rfl) (by decide) rfl
            clear hA
            unfold Oper.quietAt
            go_simp
          · refine RegQ.step_in (by kernel_rfl) ?_
            intro A hA W hW
            obtain ⟨qn, rfl⟩ := hW
            have r9 : A.tmps[9]?.getD undef = .pointer (some ⟨q, 0, none⟩) := RegQ.outG hA (by kernel_rfl) rfl
            clear hA
            unfold Oper.quietAt
            go_simp
          · refine RegQ.step_in (by kernel_rfl) ?_
            intro A hA W hW
            obtain ⟨qn, rfl⟩ := hW
            have r49 : A.tmps[49]?.getD undef = .pointer (some ⟨q, 1, none⟩) := RegQ.inG (j := 4) hA hsz rfl (by kernel_rfl) (by decide) rfl
            clear hA
            unfold Oper.quietAt
            go_simp
          · refine RegQ.step_in (by kernel_rfl) ?_
            intro A hA W hW
            obtain ⟨qn, rfl⟩ := hW
            have r0 : A.tmps[0]?.getD undef = .slice (some ⟨bA, oA, none⟩) n cap := RegQ.outG hA (by kernel_rfl) rfl
            clear hA
            unfold Oper.quietAt
            go_simp
          · refine RegQ.step_in (by kernel_rfl) ?_
            intro A hA W hW
            obtain ⟨qn, rfl⟩ := hW
            have r51 : A.tmps[51]?.getD undef = .slice (some ⟨bA, oA, none⟩) n cap := RegQ.inG (j := 6) hA hsz rfl (by kernel_rfl) (by decide) rfl
            clear hA
            unfold Oper.quietAt
            go_simp
          · refine RegQ.step_in (by kernel_rfl) ?_
            intro A hA W hW
            obtain ⟨qn, rfl⟩ := hW
            have r50 : A.tmps[50]?.getD undef = .int .i64 (d1 : Int) := RegQ.inG (j := 5) hA hsz rfl (by kernel_rfl) (by decide) rfl
            have r52 : A.tmps[52]?.getD undef = .int .i64 (n : Int) := RegQ.inG (j := 7) hA hsz rfl (by kernel_rfl) (by decide) rfl
            clear hA
            unfold Oper.quietAt
            go_simp
          · refine RegQ.step_in (by kernel_rfl) ?_
            intro A hA W hW
            obtain ⟨qn, rfl⟩ := hW
            have r48 : A.tmps[48]?.getD undef = .bool false := RegQ.inG (j := 3) hA hsz rfl (by kernel_rfl) (by decide) rfl
            have r53 : A.tmps[53]?.getD undef = .bool false := RegQ.inG (j := 8) hA hsz rfl (by kernel_rfl) (by decide) rfl
            clear hA
            unfold Oper.quietAt
            go_simp
          · refine RegQ.step_in (by kernel_rfl) ?_
            intro A hA W hW
            obtain ⟨qn, rfl⟩ := hW
            have r54 : A.tmps[54]?.getD undef = .bool false := RegQ.inG (j := 9) hA hsz rfl (by kernel_rfl) (by decide) rfl
            clear hA
            unfold Oper.quietAt
            go_simp
          · refine RegQ.step_in (by kernel_rfl) ?_
            intro A hA W hW
            obtain ⟨qn, rfl⟩ := hW
            have r9 : A.tmps[9]?.getD undef = .pointer (some ⟨q, 0, none⟩) := RegQ.outG hA (by kernel_rfl) rfl
            clear hA
            unfold Oper.quietAt
            go_simp
          · refine RegQ.step_in (by kernel_rfl) ?_
            intro A hA W hW
            obtain ⟨qn, rfl⟩ := hW
            have r56 : A.tmps[56]?.getD undef = .pointer (some ⟨q, 0, none⟩) := RegQ.inG (j := 11) hA hsz rfl (by kernel_rfl) (by decide) rfl
            clear hA
            unfold Oper.quietAt
            go_simp
          · refine RegQ.step_in (by kernel_rfl) ?_
            intro A hA W hW
            obtain ⟨qn, rfl⟩ := hW
            have r1 : A.tmps[1]?.getD undef = .string b := RegQ.outG hA (by kernel_rfl) rfl
            clear hA
            unfold Oper.quietAt
            go_simp
          · refine RegQ.step_in (by kernel_rfl) ?_
            intro A hA W hW
            obtain ⟨qn, rfl⟩ := hW
            have r58 : A.tmps[58]?.getD undef = .string b := RegQ.inG (j := 13) hA hsz rfl (by kernel_rfl) (by decide) rfl
            clear hA
            unfold Oper.quietAt
            go_simp
          · refine RegQ.step_in (by kernel_rfl) ?_
            intro A hA W hW
            obtain ⟨qn, rfl⟩ := hW
            have r57 : A.tmps[57]?.getD undef = .int .i64 (e0 : Int) := RegQ.inG (j := 12) hA hsz rfl (by kernel_rfl) (by decide) rfl
            have r59 : A.tmps[59]?.getD undef = .int .i64 (b.size : Int) := RegQ.inG (j := 14) hA hsz rfl (by kernel_rfl) (by decide) rfl
            clear hA
            unfold Oper.quietAt
            go_simp
          · refine RegQ.step_in (by kernel_rfl) ?_
            intro A hA W hW
            obtain ⟨qn, rfl⟩ := hW
            have r55 : A.tmps[55]?.getD undef = .bool false := RegQ.inG (j := 10) hA hsz rfl (by kernel_rfl) (by decide) rfl
            have r60 : A.tmps[60]?.getD undef = .bool false := RegQ.inG (j := 15) hA hsz rfl (by kernel_rfl) (by decide) rfl
            clear hA
            unfold Oper.quietAt
            go_simp
          · refine RegQ.step_in (by kernel_rfl) ?_
            intro A hA W hW
            obtain ⟨qn, rfl⟩ := hW
            have r61 : A.tmps[61]?.getD undef = .bool false := RegQ.inG (j := 16) hA hsz rfl (by kernel_rfl) (by decide) rfl
            clear hA
            unfold Oper.quietAt
            go_simp
          · refine RegQ.step_in (by kernel_rfl) ?_
            intro A hA W hW
            obtain ⟨qn, rfl⟩ := hW
            have r9 : A.tmps[9]?.getD undef = .pointer (some ⟨q, 0, none⟩) := RegQ.outG hA (by kernel_rfl) rfl
            clear hA
            unfold Oper.quietAt
            go_simp
          · refine RegQ.step_in (by kernel_rfl) ?_
            intro A hA W hW
            obtain ⟨qn, rfl⟩ := hW
            have r63 : A.tmps[63]?.getD undef = .pointer (some ⟨q, 0, none⟩) := RegQ.inG (j := 18) hA hsz rfl (by kernel_rfl) (by decide) rfl
            clear hA
            unfold Oper.quietAt
            go_simp
          · refine RegQ.step_in (by kernel_rfl) ?_
            intro A hA W hW
            obtain ⟨qn, rfl⟩ := hW
            have r0 : A.tmps[0]?.getD undef = .slice (some ⟨bA, oA, none⟩) n cap := RegQ.outG hA (by kernel_rfl) rfl
            clear hA
            unfold Oper.quietAt
            go_simp
          · refine RegQ.step_in (by kernel_rfl) ?_
            intro A hA W hW
            obtain ⟨qn, rfl⟩ := hW
            have r9 : A.tmps[9]?.getD undef = .pointer (some ⟨q, 0, none⟩) := RegQ.outG hA (by kernel_rfl) rfl
            clear hA
            unfold Oper.quietAt
            go_simp
          · refine RegQ.step_in (by kernel_rfl) ?_
            intro A hA W hW
            obtain ⟨qn, rfl⟩ := hW
            have r66 : A.tmps[66]?.getD undef = .pointer (some ⟨q, 1, none⟩) := RegQ.inG (j := 21) hA hsz rfl (by kernel_rfl) (by decide) rfl
            clear hA
            unfold Oper.quietAt
            go_simp
          · refine RegQ.step_in (by kernel_rfl) ?_
            intro A hA W hW
            obtain ⟨qn, rfl⟩ := hW
            have r65 : A.tmps[65]?.getD undef = .slice (some ⟨bA, oA, none⟩) n cap := RegQ.inG (j := 20) hA hsz rfl (by kernel_rfl) (by decide) rfl
            have r67 : A.tmps[67]?.getD undef = .int .i64 (d1 : Int) := RegQ.inG (j := 22) hA hsz rfl (by kernel_rfl) (by decide) rfl
            clear hA
            unfold Oper.quietAt
            go_simp
          · refine RegQ.step_in (by kernel_rfl) ?_
            intro A hA W hW
            obtain ⟨qn, rfl⟩ := hW
            have r68 : A.tmps[68]?.getD undef = .pointer (some ⟨bA, oA + d1, none⟩) := RegQ.inG (j := 23) hA hsz rfl (by kernel_rfl) (by decide) rfl
            clear hA
            unfold Oper.quietAt
            go_simp
          · refine RegQ.step_in (by kernel_rfl) ?_
            intro A hA W hW
            obtain ⟨qn, rfl⟩ := hW
            have r69 : A.tmps[69]?.getD undef = .string z := RegQ.inG (j := 24) hA hsz rfl (by kernel_rfl) (by decide) rfl
            clear hA
            unfold Oper.quietAt
            go_simp
          · refine RegQ.step_in (by kernel_rfl) ?_
            intro A hA W hW
            obtain ⟨qn, rfl⟩ := hW
            have r64 : A.tmps[64]?.getD undef = .int .i64 (e0 : Int) := RegQ.inG (j := 19) hA hsz rfl (by kernel_rfl) (by decide) rfl
            have r70 : A.tmps[70]?.getD undef = .int .i64 (z.size : Int) := RegQ.inG (j := 25) hA hsz rfl (by kernel_rfl) (by decide) rfl
            clear hA
            unfold Oper.quietAt
            go_simp
          · refine RegQ.step_in (by kernel_rfl) ?_
            intro A hA W hW
            obtain ⟨qn, rfl⟩ := hW
            have r62 : A.tmps[62]?.getD undef = .bool false := RegQ.inG (j := 17) hA hsz rfl (by kernel_rfl) (by decide) rfl
            have r71 : A.tmps[71]?.getD undef = .bool false := RegQ.inG (j := 26) hA hsz rfl (by kernel_rfl) (by decide) rfl
            clear hA
            unfold Oper.quietAt
            go_simp
          · refine RegQ.step_in (by kernel_rfl) ?_
            intro A hA W hW
            obtain ⟨qn, rfl⟩ := hW
            have r72 : A.tmps[72]?.getD undef = .bool false := RegQ.inG (j := 27) hA hsz rfl (by kernel_rfl) (by decide) rfl
            clear hA
            unfold Oper.quietAt
            go_simp
          · refine RegQ.step_in (by kernel_rfl) ?_
            intro A hA W hW
            obtain ⟨qn, rfl⟩ := hW
            have r1 : A.tmps[1]?.getD undef = .string b := RegQ.outG hA (by kernel_rfl) rfl
            clear hA
            unfold Oper.quietAt
            go_simp
          · refine RegQ.step_in (by kernel_rfl) ?_
            intro A hA W hW
            obtain ⟨qn, rfl⟩ := hW
            have r9 : A.tmps[9]?.getD undef = .pointer (some ⟨q, 0, none⟩) := RegQ.outG hA (by kernel_rfl) rfl
            clear hA
            unfold Oper.quietAt
            go_simp
          · refine RegQ.step_in (by kernel_rfl) ?_
            intro A hA W hW
            obtain ⟨qn, rfl⟩ := hW
            have r75 : A.tmps[75]?.getD undef = .pointer (some ⟨q, 0, none⟩) := RegQ.inG (j := 30) hA hsz rfl (by kernel_rfl) (by decide) rfl
            clear hA
            unfold Oper.quietAt
            go_simp
          · refine RegQ.step_in (by kernel_rfl) ?_
            intro A hA W hW
            obtain ⟨qn, rfl⟩ := hW
            have r0 : A.tmps[0]?.getD undef = .slice (some ⟨bA, oA, none⟩) n cap := RegQ.outG hA (by kernel_rfl) rfl
            clear hA
            unfold Oper.quietAt
            go_simp
          · refine RegQ.step_in (by kernel_rfl) ?_
            intro A hA W hW
            obtain ⟨qn, rfl⟩ := hW
            have r9 : A.tmps[9]?.getD undef = .pointer (some ⟨q, 0, none⟩) := RegQ.outG hA (by kernel_rfl) rfl
            clear hA
            unfold Oper.quietAt
            go_simp
          · refine RegQ.step_in (by kernel_rfl) ?_
            intro A hA W hW
            obtain ⟨qn, rfl⟩ := hW
            have r78 : A.tmps[78]?.getD undef = .pointer (some ⟨q, 1, none⟩) := RegQ.inG (j := 33) hA hsz rfl (by kernel_rfl) (by decide) rfl
            clear hA
            unfold Oper.quietAt
            go_simp
          · refine RegQ.step_in (by kernel_rfl) ?_
            intro A hA W hW
            obtain ⟨qn, rfl⟩ := hW
            have r77 : A.tmps[77]?.getD undef = .slice (some ⟨bA, oA, none⟩) n cap := RegQ.inG (j := 32) hA hsz rfl (by kernel_rfl) (by decide) rfl
            have r79 : A.tmps[79]?.getD undef = .int .i64 (d1 : Int) := RegQ.inG (j := 34) hA hsz rfl (by kernel_rfl) (by decide) rfl
            clear hA
            unfold Oper.quietAt
            go_simp
          · refine RegQ.step_in (by kernel_rfl) ?_
            intro A hA W hW
            obtain ⟨qn, rfl⟩ := hW
            have r80 : A.tmps[80]?.getD undef = .pointer (some ⟨bA, oA + d1, none⟩) := RegQ.inG (j := 35) hA hsz rfl (by kernel_rfl) (by decide) rfl
            clear hA
            unfold Oper.quietAt
            go_simp
          · refine RegQ.step_in (by kernel_rfl) ?_
            intro A hA W hW
            obtain ⟨qn, rfl⟩ := hW
            have r81 : A.tmps[81]?.getD undef = .string z := RegQ.inG (j := 36) hA hsz rfl (by kernel_rfl) (by decide) rfl
            clear hA
            unfold Oper.quietAt
            go_simp
          · refine RegQ.step_in (by kernel_rfl) ?_
            intro A hA W hW
            obtain ⟨qn, rfl⟩ := hW
            have r76 : A.tmps[76]?.getD undef = .int .i64 (e0 : Int) := RegQ.inG (j := 31) hA hsz rfl (by kernel_rfl) (by decide) rfl
            have r82 : A.tmps[82]?.getD undef = .int .i64 (z.size : Int) := RegQ.inG (j := 37) hA hsz rfl (by kernel_rfl) (by decide) rfl
            clear hA
            unfold Oper.quietAt
            go_simp
          · refine RegQ.step_in (by kernel_rfl) ?_
            intro A hA W hW
            obtain ⟨qn, rfl⟩ := hW
            have r9 : A.tmps[9]?.getD undef = .pointer (some ⟨q, 0, none⟩) := RegQ.outG hA (by kernel_rfl) rfl
            clear hA
            unfold Oper.quietAt
            go_simp
          · refine RegQ.step_in (by kernel_rfl) ?_
            intro A hA W hW
            obtain ⟨qn, rfl⟩ := hW
            have r84 : A.tmps[84]?.getD undef = .pointer (some ⟨q, 0, none⟩) := RegQ.inG (j := 39) hA hsz rfl (by kernel_rfl) (by decide) rfl
            clear hA
            unfold Oper.quietAt
            go_simp
          · refine RegQ.step_in (by kernel_rfl) ?_
            intro A hA W hW
            obtain ⟨qn, rfl⟩ := hW
            have r74 : A.tmps[74]?.getD undef = .string b := RegQ.inG (j := 29) hA hsz rfl (by kernel_rfl) (by decide) rfl
            have r83 : A.tmps[83]?.getD undef = .int .i64 (em : Int) := RegQ.inG (j := 38) hA hsz rfl (by kernel_rfl) (by decide) rfl
            have r85 : A.tmps[85]?.getD undef = .int .i64 (e0 : Int) := RegQ.inG (j := 40) hA hsz rfl (by kernel_rfl) (by decide) rfl
            clear hA
            unfold Oper.quietAt
            go_simp
          · refine RegQ.step_in (by kernel_rfl) ?_
            intro A hA W hW
            obtain ⟨qn, rfl⟩ := hW
            have r0 : A.tmps[0]?.getD undef = .slice (some ⟨bA, oA, none⟩) n cap := RegQ.outG hA (by kernel_rfl) rfl
            clear hA
            unfold Oper.quietAt
            go_simp
          · refine RegQ.step_in (by kernel_rfl) ?_
            intro A hA W hW
            obtain ⟨qn, rfl⟩ := hW
            have r9 : A.tmps[9]?.getD undef = .pointer (some ⟨q, 0, none⟩) := RegQ.outG hA (by kernel_rfl) rfl
            clear hA
            unfold Oper.quietAt
            go_simp
          · refine RegQ.step_in (by kernel_rfl) ?_
            intro A hA W hW
            obtain ⟨qn, rfl⟩ := hW
            have r88 : A.tmps[88]?.getD undef = .pointer (some ⟨q, 1, none⟩) := RegQ.inG (j := 43) hA hsz rfl (by kernel_rfl) (by decide) rfl
            clear hA
            unfold Oper.quietAt
            go_simp
          · refine RegQ.step_in (by kernel_rfl) ?_
            intro A hA W hW
            obtain ⟨qn, rfl⟩ := hW
            have r87 : A.tmps[87]?.getD undef = .slice (some ⟨bA, oA, none⟩) n cap := RegQ.inG (j := 42) hA hsz rfl (by kernel_rfl) (by decide) rfl
            have r89 : A.tmps[89]?.getD undef = .int .i64 (d1 : Int) := RegQ.inG (j := 44) hA hsz rfl (by kernel_rfl) (by decide) rfl
            clear hA
            unfold Oper.quietAt
            go_simp
          · refine RegQ.step_in (by kernel_rfl) ?_
            intro A hA W hW
            obtain ⟨qn, rfl⟩ := hW
            have r90 : A.tmps[90]?.getD undef = .pointer (some ⟨bA, oA + d1, none⟩) := RegQ.inG (j := 45) hA hsz rfl (by kernel_rfl) (by decide) rfl
            clear hA
            unfold Oper.quietAt
            go_simp
          · refine RegQ.step_in (by kernel_rfl) ?_
            intro A hA W hW
            obtain ⟨qn, rfl⟩ := hW
            have r86 : A.tmps[86]?.getD undef = .string (b.extract em e0) := RegQ.inG (j := 41) hA hsz rfl (by kernel_rfl) (by decide) rfl
            have r91 : A.tmps[91]?.getD undef = .string z := RegQ.inG (j := 46) hA hsz rfl (by kernel_rfl) (by decide) rfl
            clear hA
            unfold Oper.quietAt
            go_simp
          · refine RegQ.step_in (by kernel_rfl) ?_
            intro A hA W hW
            obtain ⟨qn, rfl⟩ := hW
            have r73 : A.tmps[73]?.getD undef = .bool false := RegQ.inG (j := 28) hA hsz rfl (by kernel_rfl) (by decide) rfl
            have r92 : A.tmps[92]?.getD undef = .bool false := RegQ.inG (j := 47) hA hsz rfl (by kernel_rfl) (by decide) rfl
            clear hA
            unfold Oper.quietAt
            go_simp
          · refine RegQ.step_in (by kernel_rfl) ?_
            intro A hA W hW
            obtain ⟨qn, rfl⟩ := hW
            have r93 : A.tmps[93]?.getD undef = .bool false := RegQ.inG (j := 48) hA hsz rfl (by kernel_rfl) (by decide) rfl
            clear hA
            unfold Oper.quietAt
            go_simp
          · refine RegQ.step_in (by kernel_rfl) ?_
            intro A hA W hW
            obtain ⟨qn, rfl⟩ := hW
            have r8 : A.tmps[8]?.getD undef = .int .i64 (k : Int) := RegQ.outG hA (by kernel_rfl) rfl
            clear hA
            unfold Oper.quietAt
            go_simp
          · refine RegQ.step_in (by kernel_rfl) ?_
            intro A hA W hW
            obtain ⟨qn, rfl⟩ := hW
            have r95 : A.tmps[95]?.getD undef = .int .i64 (k : Int) := RegQ.inG (j := 50) hA hsz rfl (by kernel_rfl) (by decide) rfl
            clear hA
            unfold Oper.quietAt
            go_simp
          · refine RegQ.step_in (by kernel_rfl) ?_
            intro A hA W hW
            obtain ⟨qn, rfl⟩ := hW
            have r96 : A.tmps[96]?.getD undef = .bool true := RegQ.inG (j := 51) hA hsz rfl (by kernel_rfl) (by decide) rfl
            clear hA
            unfold Oper.quietAt
            go_simp
          · refine RegQ.step_in (by kernel_rfl) ?_
            intro A hA W hW
            obtain ⟨qn, rfl⟩ := hW
            have r7 : A.tmps[7]?.getD undef = .slice (some ⟨bV, oV, none⟩) nH cp := RegQ.outG hA (by kernel_rfl) rfl
            clear hA
            unfold Oper.quietAt
            go_simp
          · refine RegQ.step_in (by kernel_rfl) ?_
            intro A hA W hW
            obtain ⟨qn, rfl⟩ := hW
            have r8 : A.tmps[8]?.getD undef = .int .i64 (k : Int) := RegQ.outG hA (by kernel_rfl) rfl
            clear hA
            unfold Oper.quietAt
            go_simp
          · refine RegQ.step_in (by kernel_rfl) ?_
            intro A hA W hW
            obtain ⟨qn, rfl⟩ := hW
            have r99 : A.tmps[99]?.getD undef = .int .i64 (k : Int) := RegQ.inG (j := 54) hA hsz rfl (by kernel_rfl) (by decide) rfl
            clear hA
            unfold Oper.quietAt
            go_simp
          · refine RegQ.step_in (by kernel_rfl) ?_
            intro A hA W hW
            obtain ⟨qn, rfl⟩ := hW
            have r98 : A.tmps[98]?.getD undef = .slice (some ⟨bV, oV, none⟩) nH cp := RegQ.inG (j := 53) hA hsz rfl (by kernel_rfl) (by decide) rfl
            have r100 : A.tmps[100]?.getD undef = .int .i64 (j : Int) := RegQ.inG (j := 55) hA hsz rfl (by kernel_rfl) (by decide) rfl
            clear hA
            unfold Oper.quietAt
            go_simp
          · refine RegQ.step_in (by kernel_rfl) ?_
            intro A hA W hW
            obtain ⟨qn, rfl⟩ := hW
            have r101 : A.tmps[101]?.getD undef = .pointer (some ⟨bV, oV + j * 2, none⟩) := RegQ.inG (j := 56) hA hsz rfl (by kernel_rfl) (by decide) rfl
            clear hA
            unfold Oper.quietAt
            go_simp
          · refine RegQ.step_in (by kernel_rfl) ?_
            intro A hA W hW
            obtain ⟨qn, rfl⟩ := hW
            have r102 : A.tmps[102]?.getD undef = .pointer (some ⟨bV, oV + j * 2, none⟩) := RegQ.inG (j := 57) hA hsz rfl (by kernel_rfl) (by decide) rfl
            clear hA
            unfold Oper.quietAt
            go_simp
          · refine RegQ.step_in (by kernel_rfl) ?_
            intro A hA W hW
            obtain ⟨qn, rfl⟩ := hW
            have r9 : A.tmps[9]?.getD undef = .pointer (some ⟨q, 0, none⟩) := RegQ.outG hA (by kernel_rfl) rfl
            clear hA
            unfold Oper.quietAt
            go_simp
          · refine RegQ.step_in (by kernel_rfl) ?_
            intro A hA W hW
            obtain ⟨qn, rfl⟩ := hW
            have r104 : A.tmps[104]?.getD undef = .pointer (some ⟨q, 0, none⟩) := RegQ.inG (j := 59) hA hsz rfl (by kernel_rfl) (by decide) rfl
            clear hA
            unfold Oper.quietAt
            go_simp
          · refine RegQ.step_in (by kernel_rfl) ?_
            intro A hA W hW
            obtain ⟨qn, rfl⟩ := hW
            have r103 : A.tmps[103]?.getD undef = .int .i64 (e0 : Int) := RegQ.inG (j := 58) hA hsz rfl (by kernel_rfl) (by decide) rfl
            have r105 : A.tmps[105]?.getD undef = .int .i64 (e0 : Int) := RegQ.inG (j := 60) hA hsz rfl (by kernel_rfl) (by decide) rfl
            clear hA
            unfold Oper.quietAt
            go_simp
          · refine RegQ.step_in (by kernel_rfl) ?_
            intro A hA W hW
            obtain ⟨qn, rfl⟩ := hW
            have r106 : A.tmps[106]?.getD undef = .bool false := RegQ.inG (j := 61) hA hsz rfl (by kernel_rfl) (by decide) rfl
            clear hA
            unfold Oper.quietAt
            go_simp
          · refine RegQ.step_in (by kernel_rfl) ?_
            intro A hA W hW
            obtain ⟨qn, rfl⟩ := hW
            have r7 : A.tmps[7]?.getD undef = .slice (some ⟨bV, oV, none⟩) nH cp := RegQ.outG hA (by kernel_rfl) rfl
            clear hA
            unfold Oper.quietAt
            go_simp
          · refine RegQ.step_in (by kernel_rfl) ?_
            intro A hA W hW
            obtain ⟨qn, rfl⟩ := hW
            have r8 : A.tmps[8]?.getD undef = .int .i64 (k : Int) := RegQ.outG hA (by kernel_rfl) rfl
            clear hA
            unfold Oper.quietAt
            go_simp
          · refine RegQ.step_in (by kernel_rfl) ?_
            intro A hA W hW
            obtain ⟨qn, rfl⟩ := hW
            have r109 : A.tmps[109]?.getD undef = .int .i64 (k : Int) := RegQ.inG (j := 64) hA hsz rfl (by kernel_rfl) (by decide) rfl
            clear hA
            unfold Oper.quietAt
            go_simp
          · refine RegQ.step_in (by kernel_rfl) ?_
            intro A hA W hW
            obtain ⟨qn, rfl⟩ := hW
            have r108 : A.tmps[108]?.getD undef = .slice (some ⟨bV, oV, none⟩) nH cp := RegQ.inG (j := 63) hA hsz rfl (by kernel_rfl) (by decide) rfl
            have r110 : A.tmps[110]?.getD undef = .int .i64 (j : Int) := RegQ.inG (j := 65) hA hsz rfl (by kernel_rfl) (by decide) rfl
            clear hA
            unfold Oper.quietAt
            go_simp
          · refine RegQ.step_in (by kernel_rfl) ?_
            intro A hA W hW
            obtain ⟨qn, rfl⟩ := hW
            have r111 : A.tmps[111]?.getD undef = .pointer (some ⟨bV, oV + j * 2, none⟩) := RegQ.inG (j := 66) hA hsz rfl (by kernel_rfl) (by decide) rfl
            clear hA
            unfold Oper.quietAt
            go_simp
          · refine RegQ.step_in (by kernel_rfl) ?_
            intro A hA W hW
            obtain ⟨qn, rfl⟩ := hW
            have r112 : A.tmps[112]?.getD undef = .pointer (some ⟨bV, oV + j * 2, none⟩) := RegQ.inG (j := 67) hA hsz rfl (by kernel_rfl) (by decide) rfl
            clear hA
            unfold Oper.quietAt
            go_simp
          · refine RegQ.step_in (by kernel_rfl) ?_
            intro A hA W hW
            obtain ⟨qn, rfl⟩ := hW
            have r9 : A.tmps[9]?.getD undef = .pointer (some ⟨q, 0, none⟩) := RegQ.outG hA (by kernel_rfl) rfl
            clear hA
            unfold Oper.quietAt
            go_simp
          · refine RegQ.step_in (by kernel_rfl) ?_
            intro A hA W hW
            obtain ⟨qn, rfl⟩ := hW
            have r114 : A.tmps[114]?.getD undef = .pointer (some ⟨q, 0, none⟩) := RegQ.inG (j := 69) hA hsz rfl (by kernel_rfl) (by decide) rfl
            clear hA
            unfold Oper.quietAt
            go_simp
          · refine RegQ.step_in (by kernel_rfl) ?_
            intro A hA W hW
            obtain ⟨qn, rfl⟩ := hW
            have r113 : A.tmps[113]?.getD undef = .int .i64 (e0 : Int) := RegQ.inG (j := 68) hA hsz rfl (by kernel_rfl) (by decide) rfl
            have r115 : A.tmps[115]?.getD undef = .int .i64 (e0 : Int) := RegQ.inG (j := 70) hA hsz rfl (by kernel_rfl) (by decide) rfl
            clear hA
            unfold Oper.quietAt
            go_simp
          · refine RegQ.step_in (by kernel_rfl) ?_
            intro A hA W hW
            obtain ⟨qn, rfl⟩ := hW
            have r116 : A.tmps[116]?.getD undef = .bool true := RegQ.inG (j := 71) hA hsz rfl (by kernel_rfl) (by decide) rfl
            clear hA
            unfold Oper.quietAt
            go_simp
          · refine RegQ.step_in (by kernel_rfl) ?_
            intro A hA W hW
            obtain ⟨qn, rfl⟩ := hW
            have r0 : A.tmps[0]?.getD undef = .slice (some ⟨bA, oA, none⟩) n cap := RegQ.outG hA (by kernel_rfl) rfl
            clear hA
            unfold Oper.quietAt
            go_simp
          · refine RegQ.step_in (by kernel_rfl) ?_
            intro A hA W hW
            obtain ⟨qn, rfl⟩ := hW
            have r7 : A.tmps[7]?.getD undef = .slice (some ⟨bV, oV, none⟩) nH cp := RegQ.outG hA (by kernel_rfl) rfl
            clear hA
            unfold Oper.quietAt
            go_simp
          · refine RegQ.step_in (by kernel_rfl) ?_
            intro A hA W hW
            obtain ⟨qn, rfl⟩ := hW
            have r8 : A.tmps[8]?.getD undef = .int .i64 (k : Int) := RegQ.outG hA (by kernel_rfl) rfl
            clear hA
            unfold Oper.quietAt
            go_simp
          · refine RegQ.step_in (by kernel_rfl) ?_
            intro A hA W hW
            obtain ⟨qn, rfl⟩ := hW
            have r120 : A.tmps[120]?.getD undef = .int .i64 (k : Int) := RegQ.inG (j := 75) hA hsz rfl (by kernel_rfl) (by decide) rfl
            clear hA
            unfold Oper.quietAt
            go_simp
          · refine RegQ.step_in (by kernel_rfl) ?_
            intro A hA W hW
            obtain ⟨qn, rfl⟩ := hW
            have r119 : A.tmps[119]?.getD undef = .slice (some ⟨bV, oV, none⟩) nH cp := RegQ.inG (j := 74) hA hsz rfl (by kernel_rfl) (by decide) rfl
            have r121 : A.tmps[121]?.getD undef = .int .i64 (j : Int) := RegQ.inG (j := 76) hA hsz rfl (by kernel_rfl) (by decide) rfl
            clear hA
            unfold Oper.quietAt
            go_simp
          · refine RegQ.step_in (by kernel_rfl) ?_
            intro A hA W hW
            obtain ⟨qn, rfl⟩ := hW
            have r122 : A.tmps[122]?.getD undef = .pointer (some ⟨bV, oV + j * 2, none⟩) := RegQ.inG (j := 77) hA hsz rfl (by kernel_rfl) (by decide) rfl
            clear hA
            unfold Oper.quietAt
            go_simp
          · refine RegQ.step_in (by kernel_rfl) ?_
            intro A hA W hW
            obtain ⟨qn, rfl⟩ := hW
            have r123 : A.tmps[123]?.getD undef = .pointer (some ⟨bV, oV + j * 2 + 1, none⟩) := RegQ.inG (j := 78) hA hsz rfl (by kernel_rfl) (by decide) rfl
            clear hA
            unfold Oper.quietAt
            go_simp
          · refine RegQ.step_in (by kernel_rfl) ?_
            intro A hA W hW
            obtain ⟨qn, rfl⟩ := hW
            have r118 : A.tmps[118]?.getD undef = .slice (some ⟨bA, oA, none⟩) n cap := RegQ.inG (j := 73) hA hsz rfl (by kernel_rfl) (by decide) rfl
            have r124 : A.tmps[124]?.getD undef = .int .i64 (d0 : Int) := RegQ.inG (j := 79) hA hsz rfl (by kernel_rfl) (by decide) rfl
            clear hA
            unfold Oper.quietAt
            go_simp
          · refine RegQ.step_in (by kernel_rfl) ?_
            intro A hA W hW
            obtain ⟨qn, rfl⟩ := hW
            have r125 : A.tmps[125]?.getD undef = .pointer (some ⟨bA, oA + d0, none⟩) := RegQ.inG (j := 80) hA hsz rfl (by kernel_rfl) (by decide) rfl
            clear hA
            unfold Oper.quietAt
            go_simp
          · refine RegQ.step_in (by kernel_rfl) ?_
            intro A hA W hW
            obtain ⟨qn, rfl⟩ := hW
            have r126 : A.tmps[126]?.getD undef = .string y := RegQ.inG (j := 81) hA hsz rfl (by kernel_rfl) (by decide) rfl
            clear hA
            unfold Oper.quietAt
            go_simp
          · refine RegQ.step_in (by kernel_rfl) ?_
            intro A hA W hW
            obtain ⟨qn, rfl⟩ := hW
            have r0 : A.tmps[0]?.getD undef = .slice (some ⟨bA, oA, none⟩) n cap := RegQ.outG hA (by kernel_rfl) rfl
            clear hA
            unfold Oper.quietAt
            go_simp
          · refine RegQ.step_in (by kernel_rfl) ?_
            intro A hA W hW
            obtain ⟨qn, rfl⟩ := hW
            have r9 : A.tmps[9]?.getD undef = .pointer (some ⟨q, 0, none⟩) := RegQ.outG hA (by kernel_rfl) rfl
            clear hA
            unfold Oper.quietAt
            go_simp
          · refine RegQ.step_in (by kernel_rfl) ?_
            intro A hA W hW
            obtain ⟨qn, rfl⟩ := hW
            have r129 : A.tmps[129]?.getD undef = .pointer (some ⟨q, 1, none⟩) := RegQ.inG (j := 84) hA hsz rfl (by kernel_rfl) (by decide) rfl
            clear hA
            unfold Oper.quietAt
            go_simp
          · refine RegQ.step_in (by kernel_rfl) ?_
            intro A hA W hW
            obtain ⟨qn, rfl⟩ := hW
            have r128 : A.tmps[128]?.getD undef = .slice (some ⟨bA, oA, none⟩) n cap := RegQ.inG (j := 83) hA hsz rfl (by kernel_rfl) (by decide) rfl
            have r130 : A.tmps[130]?.getD undef = .int .i64 (d1 : Int) := RegQ.inG (j := 85) hA hsz rfl (by kernel_rfl) (by decide) rfl
            clear hA
            unfold Oper.quietAt
            go_simp
          · refine RegQ.step_in (by kernel_rfl) ?_
            intro A hA W hW
            obtain ⟨qn, rfl⟩ := hW
            have r131 : A.tmps[131]?.getD undef = .pointer (some ⟨bA, oA + d1, none⟩) := RegQ.inG (j := 86) hA hsz rfl (by kernel_rfl) (by decide) rfl
            clear hA
            unfold Oper.quietAt
            go_simp
          · refine RegQ.step_in (by kernel_rfl) ?_
            intro A hA W hW
            obtain ⟨qn, rfl⟩ := hW
            have r132 : A.tmps[132]?.getD undef = .string z := RegQ.inG (j := 87) hA hsz rfl (by kernel_rfl) (by decide) rfl
            clear hA
            unfold Oper.quietAt
            go_simp
          · refine RegQ.step_in (by kernel_rfl) ?_
            intro A hA W hW
            obtain ⟨qn, rfl⟩ := hW
            have r127 : A.tmps[127]?.getD undef = .int .i64 (y.size : Int) := RegQ.inG (j := 82) hA hsz rfl (by kernel_rfl) (by decide) rfl
            have r133 : A.tmps[133]?.getD undef = .int .i64 (z.size : Int) := RegQ.inG (j := 88) hA hsz rfl (by kernel_rfl) (by decide) rfl
            clear hA
            unfold Oper.quietAt
            go_simp
          · refine RegQ.step_in (by kernel_rfl) ?_
            intro A hA W hW
            obtain ⟨qn, rfl⟩ := hW
            have r117 : A.tmps[117]?.getD undef = .bool true := RegQ.inG (j := 72) hA hsz rfl (by kernel_rfl) (by decide) rfl
            have r134 : A.tmps[134]?.getD undef = .bool false := RegQ.inG (j := 89) hA hsz rfl (by kernel_rfl) (by decide) rfl
            clear hA
            unfold Oper.quietAt
            go_simp
          · refine RegQ.step_in (by kernel_rfl) ?_
            intro A hA W hW
            obtain ⟨qn, rfl⟩ := hW
            have r107 : A.tmps[107]?.getD undef = .bool false := RegQ.inG (j := 62) hA hsz rfl (by kernel_rfl) (by decide) rfl
            have r135 : A.tmps[135]?.getD undef = .bool false := RegQ.inG (j := 90) hA hsz rfl (by kernel_rfl) (by decide) rfl
            clear hA
            unfold Oper.quietAt
            go_simp
          · refine RegQ.step_in (by kernel_rfl) ?_
            intro A hA W hW
            obtain ⟨qn, rfl⟩ := hW
            have r97 : A.tmps[97]?.getD undef = .bool true := RegQ.inG (j := 52) hA hsz rfl (by kernel_rfl) (by decide) rfl
            have r136 : A.tmps[136]?.getD undef = .bool false := RegQ.inG (j := 91) hA hsz rfl (by kernel_rfl) (by decide) rfl
            clear hA
            unfold Oper.quietAt
            go_simp
          · refine RegQ.step_in (by kernel_rfl) ?_
            intro A hA W hW
            obtain ⟨qn, rfl⟩ := hW
            have r94 : A.tmps[94]?.getD undef = .bool false := RegQ.inG (j := 49) hA hsz rfl (by kernel_rfl) (by decide) rfl
            have r137 : A.tmps[137]?.getD undef = .bool false := RegQ.inG (j := 92) hA hsz rfl (by kernel_rfl) (by decide) rfl
            clear hA
            unfold Oper.quietAt
            go_simp
          · intro qn
            simp only [Reg.putS, List.foldl, List.getD_cons_zero, List.getD_cons_succ, Act.put, List.setIfInBounds_toArray, List.set_cons_zero, List.set_cons_succ]
            have b9 := drewN_below (n := qn) bW
            clear bW
            go_wp2_with fail
            go_roundg (nH - (k + 1))
            case measure => omega
            case rel => exact ⟨k + 1, hlt, Nat.le_refl _, by go_num, b9⟩
    · have hltz : ¬ (k : Int) < (nH : Int) := by omega
      have hst0 : Hid (0 = (startL zs b.data.toList 0).length) := rfl
      have h110 : Hid (zs.length ≤ 110) := by show _ ≤ _; rw [← hnh.out]; exact hn1
      have hsz : Hid (∀ k, k < zs.length → (zs.getD k ByteArray.empty).size ≤ 40) := fun k hk => (okD_at hokh.out hk).2.1
      go_wp2_with fail
      go_loopw [10, 11] (fun s10 s11 wr2 => ∃ (i c : Nat), i ≤ b.size ∧ s11 = .int .i64 (i : Int) ∧ s10 = .int .i64 (c : Int) ∧ Hid (c = (startL zs b.data.toList i).length) ∧ c ≤ i * 110 ∧ Below w3.heap.size w3 wr2) (fun _ s11 _ => b.size - (intOf s11).toNat)
      case atStart => exact ⟨0, 0, Nat.zero_le _, rfl, rfl, hst0, by omega, br⟩
      case round =>
        clear br hst0
        obtain ⟨i, c, hi, rfl, rfl, hc, hcl, br⟩ := hrel
        by_cases hib : i < b.size
        · have hid : decide ((i : Int) < (b.size : Int)) = true := decide_eq_true (by omega)
          have hc0 : Hid (c = (startL zs b.data.toList i).length + ((List.range 0).filter (stands zs b.data.toList i)).length) := hc
          go_wp2_with fail
          go_loopw [10, 148] (fun s10 s148 wr3 => ∃ (q c : Nat), q ≤ n ∧ s148 = .int .i64 (q : Int) ∧ s10 = .int .i64 (c : Int) ∧ Hid (c = (startL zs b.data.toList i).length + ((List.range q).filter (stands zs b.data.toList i)).length) ∧ c ≤ i * 110 + q ∧ Below w3.heap.size w3 wr3) (fun _ s148 _ => n - (intOf s148).toNat)
          case atStart => exact ⟨0, c, Nat.zero_le _, rfl, rfl, hc0, by omega, br⟩
          case round =>
            clear br hc hc0 hcl
            obtain ⟨q, c, hq, rfl, rfl, hc, hcl, br⟩ := hrel
            by_cases hqn : q < n
            · have hqd : decide ((q : Int) < (n : Int)) = true := decide_eq_true (by omega)
              have hqz : (q : Int) < (n : Int) := by omega
              have hql : q < zs.length := by rw [← hnh.out]; exact hqn
              obtain ⟨bA, oA, rfl, _, hca⟩ := hat3h.out (by omega)
              have l3 := pw_cell_below br (hca q hql)
              have hy40 := hsz.out q hql
              have hsq : stands zs b.data.toList i q = (decide (i + (zs.getD q ByteArray.empty).size ≤ b.size) && ((b.data.toList.drop i).take (zs.getD q ByteArray.empty).size == (zs.getD q ByteArray.empty).data.toList)) := by
                unfold stands zk
                rw [← size_list, ← size_list]
              have hcn : c + 1 ≤ 30000 := by have : i * 110 ≤ 200 * 110 := Nat.mul_le_mul_right _ (by omega); omega
              have hsuc := filt_succ (stands zs b.data.toList i) q
              generalize zs.getD q ByteArray.empty = y at l3 hy40 hsq
              have za : IntKind.i64.wrap ((i : Int) + (y.size : Int)) = ((i + y.size : Nat) : Int) := by rw [IntKind.wrap_i64]; omega
              have zc : IntKind.i64.wrap ((c : Int) + 1) = (c : Int) + 1 := by rw [IntKind.wrap_i64]; omega
              have zq : IntKind.i64.wrap ((q : Int) + 1) = (q : Int) + 1 := by rw [IntKind.wrap_i64]; omega
              by_cases h1 : i + y.size ≤ b.size
              · have hex : (b.extract i (i + y.size)).data.toList = (b.data.toList.drop i).take y.size := by rw [ext_list, Nat.add_sub_cancel_left]
                have h1d : decide (i + y.size ≤ b.size) = true := decide_eq_true h1
                have h1z : decide (((i + y.size : Nat) : Int) ≤ (b.size : Int)) = true := decide_eq_true (by omega)
                have hiy : i ≤ i + y.size := Nat.le_add_right _ _
                cases h2 : ((b.extract i (i + y.size)).toList == y.toList) with
                | true =>
                  have hst : stands zs b.data.toList i q = true := by rw [hsq, h1d, ← hex, list_eq h2]; simp
                  have hc2 : Hid (c + 1 = (startL zs b.data.toList i).length + ((List.range (q + 1)).filter (stands zs b.data.toList i)).length) := by
                    show _ = _
                    rw [hsuc, hst, if_pos rfl, hc.out]; omega
                  clear hsq hsuc hst hca hex hc
                  go_wp2_with fail
                  go_roundw
                  case rel => exact ⟨q + 1, c + 1, hqn, by go_num, by go_num, hc2, by omega, br⟩
                  case measure => simp [intOf]; omega
                | false =>
                  have hst : stands zs b.data.toList i q = false := by
                    rw [hsq, h1d, Bool.true_and, ← hex]
                    exact beq_eq_false_iff_ne.2 fun e => by rw [data_inj e] at h2; simp at h2
                  have hc2 : Hid (c = (startL zs b.data.toList i).length + ((List.range (q + 1)).filter (stands zs b.data.toList i)).length) := by
                    show _ = _
                    rw [hsuc, hst, if_neg (by simp), hc.out]; omega
                  clear hsq hsuc hst hca hex hc
                  go_wp2_with fail
                  go_roundw
                  case rel => exact ⟨q + 1, c, hqn, by go_num, rfl, hc2, by omega, br⟩
                  case measure => simp [intOf]; omega
              · have h1d : decide (i + y.size ≤ b.size) = false := decide_eq_false h1
                have h1z : decide (((i + y.size : Nat) : Int) ≤ (b.size : Int)) = false := decide_eq_false (by omega)
                have hst : stands zs b.data.toList i q = false := by rw [hsq, h1d, Bool.false_and]
                have hc2 : Hid (c = (startL zs b.data.toList i).length + ((List.range (q + 1)).filter (stands zs b.data.toList i)).length) := by
                  show _ = _
                  rw [hsuc, hst, if_neg (by simp), hc.out]; omega
                clear hsq hsuc hst hca hc
                go_wp2_with fail
                go_roundw
                case rel => exact ⟨q + 1, c, hqn, by go_num, rfl, hc2, by omega, br⟩
                case measure => simp [intOf]; omega
            · have hqd : decide ((q : Int) < (n : Int)) = false := decide_eq_false (by omega)
              have hqe : q = zs.length := by have := hnh.out; omega
              have hc2 : Hid (c = (startL zs b.data.toList (i + 1)).length) := by
                show _ = _
                rw [start_succ, hc.out, hqe]
              have hcl2 : c ≤ (i + 1) * 110 := by have := h110.out; omega
              have zi : IntKind.i64.wrap ((i : Int) + 1) = (i : Int) + 1 := by rw [IntKind.wrap_i64]; omega
              clear hc hcl hqe
              go_wp2_with fail
              go_roundw
              case rel => exact ⟨i + 1, c, hib, by go_num, rfl, hc2, hcl2, br⟩
              case measure => simp [intOf]; omega
        · have hid : decide ((i : Int) < (b.size : Int)) = false := decide_eq_false (by omega)
          have hie : i = b.size := by omega
          have hcH : c = nH := by rw [hc.out, hie, size_list, hcnt.out, hnh2.out]
          have hcb : ((c : Int) == (nH : Int)) = true := by rw [hcH]; simp
          have belF := bel.trans (br.mono bel.size)
          clear hcH hie hc
          go_wp2_with fail
          go_ret
          exact ⟨rfl, belF⟩
end Go.Proofs.Ytdeeeechdlcdbaa.SfW
