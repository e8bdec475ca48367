/- The walk of LinksOrder. -/
import Derived.Test.YtdeeeechdlcdbaaSeM
import Derived.Maps.OwnSet
import Derived.Test.YtdeeeechdlcdbaaLkX
import Derived.Test.YtdeeeechdlcdbaaPhW
import Derived.IntWalk
import Derived.Deep.QuietTactic
import Derived.BigQuiet
set_option linter.unusedVariables false
set_option linter.unusedSimpArgs false
namespace Go.Proofs.Ytdeeeechdlcdbaa.LoW
open Go Go.RowKit Go.Proofs Go.Proofs.Ytdeeeechdlcdbaa Go.Proofs.Ytdeeeechdlcdbaa.Base Go.Proofs.Ytdeeeechdlcdbaa.DiA Go.Proofs.Ytdeeeechdlcdbaa.DiB Go.Proofs.Ytdeeeechdlcdbaa.DiC Go.Proofs.Ytdeeeechdlcdbaa.TrP Go.Proofs.Ytdeeeechdlcdbaa.TrM Go.Proofs.Ytdeeeechdlcdbaa.TrA Go.Proofs.Ytdeeeechdlcdbaa.TrD Go.Proofs.Ytdeeeechdlcdbaa.TrE Go.Proofs.Ytdeeeechdlcdbaa.TtP Go.Proofs.Ytdeeeechdlcdbaa.TcP Go.Proofs.Ytdeeeechdlcdbaa.TwA Go.Proofs.Ytdeeeechdlcdbaa.LkA Go.Proofs.Ytdeeeechdlcdbaa.LkP Go.Proofs.Ytdeeeechdlcdbaa.LkM Go.Proofs.Ytdeeeechdlcdbaa.LkO Go.Proofs.Ytdeeeechdlcdbaa.LkQ Go.Proofs.Ytdeeeechdlcdbaa.LkN Go.Proofs.Ytdeeeechdlcdbaa.LkS Go.Proofs.Ytdeeeechdlcdbaa.LkX Go.Proofs.Ytdeeeechdlcdbaa.PhP Go.Proofs.Ytdeeeechdlcdbaa.PhW Go.Proofs.Ytdeeeechdlcdbaa.ScP Go.Proofs.Ytdeeeechdlcdbaa.SeM
set_option maxHeartbeats 400000 in
theorem law_few (A : Option Addr) (n cap : Nat) (w : World) (hf : Calls Try.prog 23 #[.slice A n cap] w fun e w' => e = .returned (.bool false) ∧ w' = w) :
    Calls Try.prog 11 #[.slice A n cap] w fun e w' => e = .returned (.bool true) ∧ Below w.heap.size w w' := by
  go_enter Try.func11, Try.ntmps11
  go_wp2_with fail
  refine hf.mono ?_
  rintro e w1 ⟨rfl, hw⟩
  rw [hw]
  clear hf hw
  go_wp2_with fail
  refine (LkX.alive_call _).mono ?_
  rintro e w2 ⟨rfl, b2⟩
  go_wp2_with fail
  go_ret
  exact ⟨rfl, b2⟩
set_option maxRecDepth 20000 in
set_option maxHeartbeats 8000000 in
theorem law_in (A : Option Addr) (n cap : Nat) (zs : List ByteArray) (w : World) (hf : Calls Try.prog 23 #[.slice A n cap] w fun e w' => e = .returned (.bool true) ∧ w' = w)
    (hn : n = zs.length) (hat : StrsAt w A zs) (hn1 : n ≤ 110) (htot : total zs ≤ 1300) :
    Calls Try.prog 11 #[.slice A n cap] w fun e w' => e = .returned (.bool true) ∧ Below w.heap.size w w' := by
  have hnh : Hid (n = zs.length) := hn
  clear hn
  go_enter Try.func11, Try.ntmps11
  go_wp2_with fail
  refine hf.mono ?_
  rintro e w1 ⟨rfl, hw⟩
  rw [hw]
  clear hf hw w1
  go_wp2_with fail
  refine (LkX.alive_call _).mono ?_
  rintro e w1 ⟨rfl, bel⟩
  have hat1 := hat.below bel
  go_wp2_with fail
  refine (phrases_any A n cap zs w1 hnh.out hat1 (by omega)).mono ?_
  rintro e w2 ⟨hph, hw⟩
  rw [hw]
  clear hw w2
  rcases hph with ⟨hok, rfl⟩ | ⟨hok, c0, k0, hc0, rfl⟩
  rotate_left
  · have hcd : (c0 != 0) = true := by simp [hc0]
    clear hat hat1 hok
    go_wp2_with fail
    go_ret
    exact ⟨rfl, bel⟩
  go_wp2_with fail
  refine (lmake_any A n cap zs w1 hnh.out hat1 (by omega)).mono ?_
  rintro e w2 ⟨b2, ⟨hno, _⟩ | ⟨_, p, B, px, m, N, F, O, L, rfl, hl⟩⟩
  · rw [hok] at hno; cases hno
  replace bel := bstep bel b2
  have hat2 := hat1.below b2
  clear hat1 b2 hat
  have hT := tr_build hok
  have hok2 := hl.ok
  have heq := hl.eq
  have hlen := hl.len
  have hla := hl.at_
  clear hl
  obtain ⟨X, hX⟩ : ∃ X, build zs zs.length = X := ⟨_, rfl⟩
  rw [hX] at hT hok2 heq
  have hTh : Hid (Tr zs X) := hT
  have hOk : Hid (LkOk X F O L) := hok2
  have hNX : Hid (N.map (·.p) = X) := heq
  obtain ⟨ln, hln⟩ : ∃ ln, N.length = ln := ⟨_, rfl⟩
  have hln1 : ln ≤ 1301 := by omega
  have hlnh : Hid (N.length = ln) := hln
  have hXl : Hid (X.length = ln) := by show _ = _; rw [← hNX.out, List.length_map, hln]
  have hokh : Hid (okD zs = true) := hok
  clear hX hT hok2 heq hln hlen hok
  have cT := trie_any hla
  go_wp2_with fail
  refine cT.mono ?_
  rintro e w3 ⟨rfl, hw⟩
  rw [hw]
  clear cT hw w3
  have hmm := @run_makeMap Try.prog
  have hla4 := hla.below (balloc (Below.refl w2.heap.size w2) (.map #[] 0))
  have bel4 := balloc bel (.map #[] 0)
  have hS := SetAt.made w2
  have cO := order_any hla4 (by rw [hlnh.out]; omega)
  rw [hlnh.out] at cO
  obtain ⟨w4, hw4⟩ : ∃ w4, w4 = w2.alloc (.map #[] 0) := ⟨_, rfl⟩
  obtain ⟨bm, hbm⟩ : ∃ bm, bm = w2.heap.size := ⟨_, rfl⟩
  have hbm2 : bm < w4.heap.size := by rw [hw4, hbm]; simp
  have hB2 : Hid (bm = w2.heap.size) := hbm
  rw [← hw4, ← hbm] at hS
  rw [← hw4] at hla4 bel4 cO
  have b24 : Below w2.heap.size w2 w4 := by rw [hw4]; exact balloc (Below.refl _ _) _
  go_wp2_with fail
  rw [← hw4, ← hbm]
  clear hw4 hbm hmm
  refine cO.mono ?_
  rintro e w5 ⟨v, rfl, hr, b5⟩
  obtain ⟨_, V, cp, rfl, _⟩ := row_at hr
  have hS5 := hS.below b5
  have b25 := b24.trans (b5.mono b24.size)
  clear cO hS b5 bel4 hla4 b24
  have hlb := hOk.out.ord
  have hLl : Hid (L.length = ln) := by show _ = _; rw [hlb, ord_length, hXl.out]
  have hLh : Hid (L = ordL (dep X) X.length) := hlb
  clear hlb
  have hS6 : SetAt w5 bm (L.take 0) := by rw [List.take_zero]; exact hS5
  have belh : Hid (Below w.heap.size w w2) := bel
  clear hS5 bel hat2
  go_wp2_with fail
  go_loopw [37] (fun s wr => ∃ k : Nat, k ≤ ln ∧ s = .int .i64 k ∧ SetAt wr bm (L.take k) ∧ Below w2.heap.size w2 wr ∧ wr.ownsRow w4.heap.size 3 1 (.slice V ln cp) ln ((toI L).map (Value.int .i64))) (fun s _ => ln - (intOf s).toNat)
  case atStart => exact ⟨0, Nat.zero_le _, rfl, hS6, b25, hr⟩
  case round =>
    obtain ⟨k, hk, rfl, hSr, br, hrr⟩ := hrel
    clear hS6 b25 hr
    have hlr := hla.below br
    by_cases hlt : k < ln
    · have hkd : decide ((k : Int) < (ln : Int)) = true := decide_eq_true (by omega)
      have hki : (k : Int) < (ln : Int) := by omega
      obtain ⟨_, V2, cp2, hv2, hAt⟩ := row_at hrr
      injection hv2 with e1 e2 e3
      subst e1
      subst e3
      clear e2
      obtain ⟨b, off, rfl, _, hc⟩ := hAt (by unfold toI; rw [List.length_map, hLl.out]; omega)
      have hc1 := hc k (by unfold toI; rw [List.length_map, hLl.out]; omega)
      have hgd : (toI L).getD k 0 = ((L.getD k 0 : Nat) : Int) := by
        unfold toI
        rw [List.getD_eq_getElem?_getD, List.getElem?_map, List.getElem?_eq_getElem (by rw [hLl.out]; exact hlt), List.getD_eq_getElem?_getD, List.getElem?_eq_getElem (by rw [hLl.out]; exact hlt)]; rfl
      rw [hgd] at hc1
      have hkX : k < X.length := by rw [hXl.out]; exact hlt
      have hxlt : L.getD k 0 < X.length := by rw [hLh.out]; exact ord_at hkX
      have hfr : L.getD k 0 ≠ 0 → F.getD (L.getD k 0) 0 ∈ L.take k := fun h0 => by
        have hlg := hOk.out.lg _ hxlt
        obtain ⟨j, hj, he⟩ := ord_has (D := dep X) hlg.lt
        have hpos := (tx_pos hTh.out.good hTh.out.fine hxlt).1 (by omega)
        have hle := hlg.le
        have hjk : j < k := ord_lt (D := dep X) hj hkX (by rw [he, ← hLh.out, dep_tx, dep_tx]; omega)
        rw [← he, ← hLh.out]
        have hjl : j < L.length := by rw [hLl.out]; omega
        rw [List.getD_eq_getElem?_getD, List.getElem?_eq_getElem hjl]
        exact List.mem_take_iff_getElem.2 ⟨j, by omega, rfl⟩
      have hnew : L.getD k 0 ∉ L.take k := fun hm => by
        obtain ⟨j, hj, he⟩ := List.mem_take_iff_getElem.1 hm
        have he2 : L.getD j 0 = L.getD k 0 := by rw [← he, List.getD_eq_getElem?_getD, List.getElem?_eq_getElem (by omega)]; rfl
        rw [hLh.out] at he2
        have := ord_inj (by rw [hXl.out]; omega) hkX he2
        omega
      have htk : Hid (L.take (k + 1) = L.take k ++ [L.getD k 0]) := take_getD L 0 (by rw [hLl.out]; exact hlt)
      have cf := fail_in hlr (k := L.getD k 0) (by rw [hlnh.out, ← hXl.out]; exact hxlt)
      have hfl : L.getD k 0 ≠ 0 → F.getD (L.getD k 0) 0 ≤ 1000000 := fun _ => by have := (hOk.out.lg _ hxlt).lt; rw [hXl.out] at this; omega
      have hxle : L.getD k 0 ≤ 1000000 := by rw [hXl.out] at hxlt; omega
      have hlk := hSr.look hxle
      generalize hx : L.getD k 0 = x at hc1 hxlt hfr hnew htk cf hfl hxle hlk
      rw [decide_eq_false hnew] at hlk
      generalize F.getD x 0 = f at cf hfr hfl
      obtain ⟨w7, hrun, hS7, hg7⟩ := hSr.put hxle hnew (by rw [List.length_take]; unfold maxLen; omega)
      have hr7 := own_grown hrr hg7 hbm2
      have b7 := br.grown hg7 br.size (fun q hq => by injection hq with hq; have := hB2.out; omega)
      rw [← htk.out] at hS7
      have z1 : IntKind.i64.wrap ((k : Int) + 1) = (k : Int) + 1 := by rw [IntKind.wrap_i64]; omega
      by_cases hx0 : x = 0
      · have hxd : ((x : Int) != 0) = false := by simp [hx0]
        clear hx0 hAt hc hgd hx hfr hnew htk cf hfl hxle hSr hg7 hrr br hkX hxlt hlr
        go_wp2_with fail
        go_roundw
        case rel => exact ⟨k + 1, by omega, by go_num, hS7, b7, hr7⟩
        case measure => simp [intOf]; omega
      · have hxd : ((x : Int) != 0) = true := by simp; omega
        have hlk2 := hSr.look (hfl hx0)
        rw [decide_eq_true (hfr hx0)] at hlk2
        clear hAt hc hgd hx hfr hnew htk hfl hxle hSr hg7 hrr br hkX hxlt hlr
        go_wp2_with fail
        refine cf.mono ?_
        rintro e w6 ⟨rfl, hw⟩
        rw [hw]
        clear cf hw w6
        go_wp2_with fail
        go_roundw
        case rel => exact ⟨k + 1, by omega, by go_num, hS7, b7, hr7⟩
        case measure => simp [intOf]; omega
    · have hkd : decide ((k : Int) < (ln : Int)) = false := decide_eq_false (by omega)
      have hkl : k = ln := by omega
      have hLt : L.take k = L := List.take_of_length_le (by rw [hLl.out]; omega)
      rw [hLt] at hSr
      obtain ⟨D, hown, hsz⟩ := hSr.own
      have hszh : Hid (Maps.size D = ln) := by show _ = _; rw [hsz, hLl.out]
      have cT := trie_any hlr
      have cl := len_any hlr.trie
      rw [hlnh.out] at cl
      have belF := belh.out.trans (br.mono belh.out.size)
      clear hLt hsz hSr hrr hlr
      go_wp2_with (at_len; refine wpList_len_own _ rfl _ 69 rfl 3 4 Try.underlying69 _ bm _ D rfl hown ?_)
      rw [hszh.out]
      go_wp2_with fail
      refine cT.mono ?_
      rintro e w6 ⟨rfl, hw⟩
      rw [hw]
      clear cT hw w6
      go_wp2_with fail
      refine cl.mono ?_
      rintro e w6 ⟨rfl, hw⟩
      rw [hw]
      clear cl hw w6
      go_wp2_with fail
      go_ret
      exact ⟨rfl, belF⟩
end Go.Proofs.Ytdeeeechdlcdbaa.LoW
