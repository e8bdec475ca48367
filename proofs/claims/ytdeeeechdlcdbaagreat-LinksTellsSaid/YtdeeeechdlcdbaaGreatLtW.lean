/- The walk of LinksTells. -/
import Derived.Test.YtdeeeechdlcdbaaGreatLkX
import Derived.Test.YtdeeeechdlcdbaaGreatPhW
import Derived.Test.YtdeeeechdlcdbaaGreatTtN
import Derived.Test.YtdeeeechdlcdbaaGreatScS
import Derived.Test.YtdeeeechdlcdbaaGreatBkIF
import Derived.IntWalk
import Derived.Deep.QuietTactic
import Derived.BigQuiet
set_option linter.unusedVariables false
set_option linter.unusedSimpArgs false
namespace Go.Proofs.YtdeeeechdlcdbaaGreat.LtW
open Go Go.RowKit Go.Proofs Go.Proofs.YtdeeeechdlcdbaaGreat Go.Proofs.YtdeeeechdlcdbaaGreat.Base Go.Proofs.YtdeeeechdlcdbaaGreat.DiA Go.Proofs.YtdeeeechdlcdbaaGreat.DiB Go.Proofs.YtdeeeechdlcdbaaGreat.DiC Go.Proofs.YtdeeeechdlcdbaaGreat.TrP Go.Proofs.YtdeeeechdlcdbaaGreat.TrM Go.Proofs.YtdeeeechdlcdbaaGreat.TrA Go.Proofs.YtdeeeechdlcdbaaGreat.TrD Go.Proofs.YtdeeeechdlcdbaaGreat.TrE Go.Proofs.YtdeeeechdlcdbaaGreat.TtP Go.Proofs.YtdeeeechdlcdbaaGreat.TcP Go.Proofs.YtdeeeechdlcdbaaGreat.TwA Go.Proofs.YtdeeeechdlcdbaaGreat.LkA Go.Proofs.YtdeeeechdlcdbaaGreat.LkP Go.Proofs.YtdeeeechdlcdbaaGreat.LkM Go.Proofs.YtdeeeechdlcdbaaGreat.LkO Go.Proofs.YtdeeeechdlcdbaaGreat.LkQ Go.Proofs.YtdeeeechdlcdbaaGreat.LkN Go.Proofs.YtdeeeechdlcdbaaGreat.LkS Go.Proofs.YtdeeeechdlcdbaaGreat.LkX Go.Proofs.YtdeeeechdlcdbaaGreat.PhP Go.Proofs.YtdeeeechdlcdbaaGreat.PhW Go.Proofs.YtdeeeechdlcdbaaGreat.ScP Go.Proofs.YtdeeeechdlcdbaaGreat.ScS Go.Proofs.YtdeeeechdlcdbaaGreat.TtN
set_option maxRecDepth 20000 in
set_option maxHeartbeats 400000 in
theorem law_few (A : Option Addr) (n cap : Nat) (k0 : Int) (w : World) (hf : Calls Tryz.prog 7 #[.slice A n cap] w fun e w' => e = .returned (.bool false) ∧ w' = w) :
    Calls Tryz.prog 3 #[.slice A n cap, .int .i64 k0] w fun e w' => e = .returned (.bool true) ∧ Below w.heap.size w w' := by
  go_enter Tryz.func3, Tryz.ntmps3
  go_wp2_with fail
  refine hf.mono ?_
  rintro e w1 ⟨rfl, hw⟩
  rw [hw]
  clear hf hw
  go_wp2_with fail
  refine (LkX.alive_call _).mono ?_
  rintro e w2 ⟨rfl, b2⟩
  go_wp2_with fail
  go_ret
  exact ⟨rfl, b2⟩
theorem rowL {B n : Nat} {w : World} {v : Value} {L : List Nat} (h : w.ownsRow B 3 1 v n ((toI L).map (Value.int .i64))) (hn : L.length = n) : BkInts.Row B w (v, toI L) := by
  have e : (toI L).length = n := by unfold toI; rw [List.length_map]; exact hn
  show w.ownsRow B 3 1 v (toI L).length _
  rw [e]; exact h
theorem rowM {B n : Nat} {w : World} {v : Value} {L : List Nat} (h : w.ownsRow B 3 1 v n (L.map encN)) (hn : L.length = n) : BkInts.Row B w (v, toI L) := rowL (by rw [← toI_map]; exact h) hn
def OutIs (X : List Pn) (s : List UInt8) (z : Int) (o o1 : Nat) : Prop := (o1 = 0 ∧ Ot X s z.toNat o) ∨ (o1 = o ∧ o ≠ 0)
theorem find_node {X : List Pn} (hF : Fine X) {o : Nat} (ho : o < X.length) : findI (texts X) (tx X o) = (o : Int) := by
  unfold findI
  cases h : findL (texts X) (tx X o) with
  | none => exact absurd (by rw [texts_getD ho]; rfl) (findL_none h o (by rw [texts_length]; exact ho))
  | some k =>
    obtain ⟨h1, h2⟩ := findL_some h
    rw [texts_length] at h1
    rw [texts_getD h1] at h2
    rw [hF.dist k o h1 ho h2]
theorem byNum_len (D : Nat → Nat) (n k : Nat) : (byNum D n k).length ≤ n := by
  have h1 : (byNum D n k).Nodup := (byNum_pw D n k).imp fun h => lex_ne D h
  have h2 : (byNum D n k).Perm ((List.range n).filter fun i => decide (D i < k)) := by
    refine (List.perm_ext_iff_of_nodup h1 (List.nodup_range.filter _)).2 fun x => ?_
    rw [mem_byNum, List.mem_filter, List.mem_range, decide_eq_true_eq]
  rw [h2.length_eq]
  refine Nat.le_trans (List.length_filter_le _ _) ?_
  rw [List.length_range]; exact Nat.le_refl _
set_option maxRecDepth 20000 in
set_option maxHeartbeats 8000000 in
theorem law_in (A : Option Addr) (n cap : Nat) (zs : List ByteArray) (k0 : Int) (w : World) (hf : Calls Tryz.prog 7 #[.slice A n cap] w fun e w' => e = .returned (.bool true) ∧ w' = w)
    (hn : n = zs.length) (hat : StrsAt w A zs) (hn1 : n ≤ 110) (htot : total zs ≤ 1300) :
    Calls Tryz.prog 3 #[.slice A n cap, .int .i64 k0] w fun e w' => e = .returned (.bool true) ∧ Below w.heap.size w w' := by
  have hnh : Hid (n = zs.length) := hn
  clear hn
  go_enter Tryz.func3, Tryz.ntmps3
  go_wp2_with fail
  refine hf.mono ?_
  rintro e w1 ⟨rfl, hw⟩
  rw [hw]
  clear hf hw w1
  go_wp2_with fail
  refine (LkX.alive_call _).mono ?_
  rintro e w1 ⟨rfl, bel⟩
  have hat1 := hat.below bel
  go_wp2_with fail
  refine (phrases_any A n cap zs w1 hnh.out hat1 (by omega)).mono ?_
  rintro e w2 ⟨hph, hw⟩
  rw [hw]
  clear hw w2
  rcases hph with ⟨hok, rfl⟩ | ⟨hok, c0, k0, hc0, rfl⟩
  rotate_left
  · have hcd : (c0 != 0) = true := by simp [hc0]
    clear hat hat1 hok
    go_wp2_with fail
    go_ret
    exact ⟨rfl, bel⟩
  go_wp2_with fail
  refine (lmake_any A n cap zs w1 hnh.out hat1 (by omega)).mono ?_
  rintro e w2 ⟨b2, ⟨hno, _⟩ | ⟨_, p, B, px, m, N, F, O, L, rfl, hl⟩⟩
  · rw [hok] at hno; cases hno
  replace bel := bstep bel b2
  have hat2 := hat1.below b2
  clear hat1 b2 hat
  have hT := tr_build hok
  have hok2 := hl.ok
  have heq := hl.eq
  have hlen := hl.len
  have hla := hl.at_
  clear hl
  obtain ⟨X, hX⟩ : ∃ X, build zs zs.length = X := ⟨_, rfl⟩
  rw [hX] at hT hok2 heq
  have hXb : Hid (build zs zs.length = X) := hX
  have hTh : Hid (Tr zs X) := hT
  have hOk : Hid (LkOk X F O L) := hok2
  have hNX : Hid (N.map (·.p) = X) := heq
  obtain ⟨ln, hln⟩ : ∃ ln, N.length = ln := ⟨_, rfl⟩
  have hln1 : ln ≤ 1301 := by omega
  have hlnh : Hid (N.length = ln) := hln
  have hXl : Hid (X.length = ln) := by show _ = _; rw [← hNX.out, List.length_map, hln]
  have hokh : Hid (okD zs = true) := hok
  clear hX hT hok2 heq hln hlen hok
  go_wp2_with fail
  refine (nodes_any A n cap zs w2 hnh.out hat2 hn1 htot).mono ?_
  rintro e w3 ⟨v, rfl, hr, b3⟩
  rw [hXb.out, texts_length, hXl.out] at hr
  obtain ⟨V, cp, rfl, hV⟩ := own_cells hr (by rw [texts_length, hXl.out])
  replace bel := bstep bel b3
  replace hla := hla.below b3
  have hat3 : Hid (StrsAt w3 A zs) := hat2.below b3
  have hVh : Hid (StrsAt w3 V (texts X)) := hV
  have hlah : Hid (LkAt B w3 p px N m F O L) := hla
  have belh : Hid (Below w.heap.size w w3) := bel
  have hln0 : 0 < ln := by rw [← hXl.out]; exact hTh.out.good.pos
  have hcV : Hid (∃ bV oV, V = some ⟨bV, oV, none⟩ ∧ ∀ j, j < ln → w3.cell? ⟨bV, oV + j, none⟩ = some (.string (X.getD j noPn).text)) := by
    obtain ⟨bV, oV, e, _, hc⟩ := hV (by rw [texts_length, hXl.out]; exact hln0)
    refine ⟨bV, oV, e, fun j hj => ?_⟩
    rw [← texts_getD (by rw [hXl.out]; exact hj)]
    exact hc j (by rw [texts_length, hXl.out]; exact hj)
  clear hat2 hr b3 htot hV hla bel
  obtain ⟨bV, oV, rfl, hcV0⟩ := hcV.out
  have hcVh : Hid (∀ j, j < ln → w3.cell? ⟨bV, oV + j, none⟩ = some (.string (X.getD j noPn).text)) := hcV0
  clear hcV hcV0
  obtain ⟨i3, hi3, hy0, hy1, hy2⟩ := info_parts info3
  have hnil : w3.ownsRow w3.heap.size 3 1 (.slice none 0 0) (byNum (dep X) X.length 0).length ((byNum (dep X) X.length 0).map encN) := by
    have e : byNum (dep X) X.length 0 = [] := by rw [List.eq_nil_iff_forall_not_mem]; intro x hx; have := (mem_byNum (dep X) X.length 0).1 hx; omega
    rw [e]; exact World.ownsRow_nil _ _ _ _
  go_wp2_with fail
  go_loopw [9, 10] (fun s9 s10 wr => ∃ k m : Nat, k ≤ 41 ∧ s10 = .int .i64 (k : Int) ∧ Hid ((byNum (dep X) X.length k).length = m) ∧ wr.ownsRow w3.heap.size 3 1 s9 m ((byNum (dep X) X.length k).map encN) ∧ Below w3.heap.size w3 wr) (fun _ s10 _ => 41 - (intOf s10).toNat)
  case atStart => exact ⟨0, _, by omega, rfl, rfl, hnil, Below.refl _ _⟩
  case round =>
    obtain ⟨k, m1, hk, rfl, hm1, hrow, br⟩ := hrel
    clear hnil
    by_cases hk40 : k < 41
    · have hkd : decide ((k : Int) ≤ 40) = true := decide_eq_true (by omega)
      have hkd2 : decide (k ≤ 40) = true := decide_eq_true (by omega)
      obtain ⟨V9, c9, rfl, _⟩ := own_form hrow
      have hrow0 : wr.ownsRow w3.heap.size 3 1 (.slice V9 m1 c9) m1 ((byNum (dep X) X.length k ++ (List.range 0).filter fun j => dep X j == k).map encN) := by
        rw [List.range_zero, List.filter_nil, List.append_nil]; exact hrow
      have hm10 : Hid ((byNum (dep X) X.length k ++ (List.range 0).filter fun j => dep X j == k).length = m1) := by
        show _ = _
        rw [List.range_zero, List.filter_nil, List.append_nil]; exact hm1
      have hbn : Hid (∀ i, i ≤ ln → (byNum (dep X) X.length k ++ (List.range i).filter fun j => dep X j == k).length ≤ 3000) := fun i hi => by
        have h1 := byNum_len (dep X) X.length k
        have h2 := List.length_filter_le (fun j => dep X j == k) (List.range i)
        rw [List.length_range] at h2
        rw [List.length_append]
        have := hXl.out
        omega
      have zk1 : IntKind.i64.wrap ((k : Int) + 1) = (k : Int) + 1 := by rw [IntKind.wrap_i64]; omega
      clear hrow hm1
      go_wp2_with fail
      go_loopw [9, 47] (fun s9 s47 wr2 => ∃ i m2 : Nat, i ≤ ln ∧ s47 = .int .i64 (i : Int) ∧ Hid ((byNum (dep X) X.length k ++ (List.range i).filter fun j => dep X j == k).length = m2) ∧ wr2.ownsRow w3.heap.size 3 1 s9 m2 ((byNum (dep X) X.length k ++ (List.range i).filter fun j => dep X j == k).map encN) ∧ Below w3.heap.size w3 wr2) (fun _ s47 _ => ln - (intOf s47).toNat)
      case atStart => exact ⟨0, m1, Nat.zero_le _, rfl, hm10, hrow0, br⟩
      case round =>
        obtain ⟨i, m2, hi, rfl, hm2, hrow2, br2⟩ := hrel
        clear hrow0 hm10 br
        by_cases hil : i < ln
        · have hid : decide ((i : Int) < (ln : Int)) = true := decide_eq_true (by omega)
          have hiz : (i : Int) < (ln : Int) := by omega
          have hci := pw_cell_below br2 (hcVh.out i hil)
          have hsz : (X.getD i noPn).text.size = dep X i := rfl
          have hb2 := hbn.out i hi
          rw [hm2.out] at hb2
          obtain ⟨t, ht⟩ : ∃ t, (X.getD i noPn).text = t := ⟨_, rfl⟩
          rw [ht] at hci hsz
          have z1 : IntKind.i64.wrap ((i : Int) + 1) = (i : Int) + 1 := by rw [IntKind.wrap_i64]; omega
          clear ht
          by_cases hdk : t.size = k
          · have e1 : ((t.size : Int) == (k : Int)) = true := by rw [hdk]; simp
            have e2 : (t.size == k) = true := by rw [hdk]; simp
            have hnx : Hid ((byNum (dep X) X.length k ++ (List.range (i + 1)).filter fun j => dep X j == k) = (byNum (dep X) X.length k ++ (List.range i).filter fun j => dep X j == k) ++ [i]) := by
              show _ = _
              rw [List.range_succ, List.filter_append, ← List.append_assoc]
              congr 1
              simp [← hsz, hdk]
            have own7 := hrow2.alloc (.cells #[.int .i64 (i : Int)] 3)
            have b7 : Below w3.heap.size w3 (wr.alloc (.cells #[.int .i64 (i : Int)] 3)) := br2.trans ((balloc (Below.refl _ _) _).mono br2.size)
            have hh3 := heap_new wr (.cells #[.int .i64 (i : Int)] 3)
            have hs7 := b7.size
            clear hrow2 hdk hsz
            go_wp2_with (first | (at_builtin; refine wpList_append_own _ rfl (.tmp 56) (.tmp 58) 31 rfl w3.heap.size 3 i3 _ 1 8 Tryz.underlying31 hi3 hy0 hy1 hy2 rfl (by decide) _ m2 ((byNum (dep X) X.length k ++ (List.range i).filter fun j => dep X j == k).map encN) rfl own7 ⟨wr.heap.size, 0, none⟩ 1 1 [.int .i64 (i : Int)] rfl rfl ?k1 ?k2 ?k3 ?k4 ?k5 ?_))
            case k1 => intro j u hj; rw [Addr.add_lit, Nat.zero_add]; exact cell_of hh3 (by simpa using hj)
            case k2 => intro u hu; simp at hu; subst hu; rfl
            case k3 => unfold maxLen; omega
            case k4 => omega
            case k5 => omega
            intro v8 w8 own8 hg8 _
            have b8 := b7.grown hg8 b7.size (fun q hq => own_ge own7 q hq)
            have own9 : w8.ownsRow w3.heap.size 3 1 v8 (m2 + 1) ((byNum (dep X) X.length k ++ (List.range (i + 1)).filter fun j => dep X j == k).map encN) := by
              rw [hnx.out, List.map_append, List.map_append, List.append_assoc]; exact own8
            have hm9 : Hid ((byNum (dep X) X.length k ++ (List.range (i + 1)).filter fun j => dep X j == k).length = m2 + 1) := by
              show _ = _
              rw [hnx.out, List.length_append, hm2.out]; rfl
            obtain ⟨V8, c8, rfl, _⟩ := own_form own8
            clear own8 own7 hg8 b7 hh3 hs7 hnx hm2
            go_wp2_with fail
            go_roundw
            case rel => exact ⟨i + 1, m2 + 1, hil, by go_num, hm9, own9, b8⟩
            case measure => simp [intOf]; omega
          · have e1 : ((t.size : Int) == (k : Int)) = false := by simp; omega
            have e2 : (t.size == k) = false := by simp; omega
            have hnx : (byNum (dep X) X.length k ++ (List.range (i + 1)).filter fun j => dep X j == k) = (byNum (dep X) X.length k ++ (List.range i).filter fun j => dep X j == k) := by
              rw [List.range_succ, List.filter_append]
              have : ([i] : List Nat).filter (fun j => dep X j == k) = [] := by simp [← hsz, hdk]
              rw [this, List.append_nil]
            rw [← hnx] at hrow2 hm2
            clear hdk hsz hnx
            go_wp2_with fail
            go_roundw
            case rel => exact ⟨i + 1, m2, hil, by go_num, hm2, hrow2, br2⟩
            case measure => simp [intOf]; omega
        · have hid : decide ((i : Int) < (ln : Int)) = false := decide_eq_false (by omega)
          have hiz : ¬ (i : Int) < (ln : Int) := by omega
          obtain rfl : i = X.length := by have := hXl.out; omega
          rw [← byNum_succ] at hrow2 hm2
          go_wp2_with fail
          go_roundw
          case rel => exact ⟨k + 1, m2, by omega, by go_num, hm2, hrow2, br2⟩
          case measure => simp [intOf]; omega
    · have hkd : decide ((k : Int) ≤ 40) = false := decide_eq_false (by omega)
      have hkd2 : decide (k ≤ 40) = false := decide_eq_false (by omega)
      have hk41 : Hid (k = 41) := by show _ = _; omega
      have eL : byNum (dep X) X.length k = L := by
        rw [hk41.out, hOk.out.ord]; exact byNum_ord (dep X) X.length (fun i hi => by rw [dep_tx]; have := hTh.out.short i hi; omega)
      rw [eL] at hrow hm1
      obtain ⟨V9, c9, rfl, _⟩ := own_form hrow
      obtain ⟨wA, hwAe⟩ : ∃ wA, wA = wr := ⟨wr, rfl⟩
      subst hwAe
      have hrowh : Hid (wA.ownsRow w3.heap.size 3 1 (.slice V9 m1 c9) m1 (L.map encN)) := hrow
      have hwA : Hid (Below w3.heap.size w3 wA) := br
      clear eL hrow br hi3 hy0 hy1 hy2
      go_wp2_with fail
      go_loopw [63] (fun s63 wr2 => ∃ i : Nat, i ≤ ln ∧ s63 = .int .i64 (i : Int) ∧ Below wA.heap.size wA wr2) (fun s63 _ => ln - (intOf s63).toNat)
      case atStart => exact ⟨0, Nat.zero_le _, rfl, Below.refl _ _⟩
      case round =>
        obtain ⟨i, hi, rfl, b2⟩ := hrel
        by_cases hil : i < ln
        · have hid : decide ((i : Int) < (ln : Int)) = true := decide_eq_true (by omega)
          have hiz : (i : Int) < (ln : Int) := by omega
          have hiX : i < X.length := by rw [hXl.out]; exact hil
          have hci := pw_cell_below (hwA.out.trans (b2.mono hwA.out.size)) (hcVh.out i hil)
          obtain ⟨t, ht⟩ : ∃ t, (X.getD i noPn).text = t := ⟨_, rfl⟩
          rw [ht] at hci
          have htx : Hid (t.data.toList = tx X i) := by show _ = _; rw [← ht]; rfl
          have htl : Hid ((tx X i).length = t.size) := by show _ = _; rw [← htx.out, ← size_list]
          have ht40 : t.size ≤ 40 := by have := hTh.out.short i hiX; have := htl.out; omega
          obtain ⟨o, ho⟩ : ∃ o, O.getD i 0 = o := ⟨_, rfl⟩
          obtain ⟨fl, hfl⟩ : ∃ fl, F.getD i 0 = fl := ⟨_, rfl⟩
          have hot : Hid (Ot X (tx X i) ((tx X i).length - 1) o) := by have := hOk.out.ot i hiX; rw [ho] at this; exact this
          have hlg : Hid (Lg X (tx X i) ((tx X i).length - 1) fl) := by have := hOk.out.lg i hiX; rw [hfl] at this; exact this
          have hoh : Hid (O.getD i 0 = o) := ho
          have hflh : Hid (F.getD i 0 = fl) := hfl
          have zt : IntKind.i64.wrap ((t.size : Int) - 1) = (t.size : Int) - 1 := by rw [IntKind.wrap_i64]; omega
          have zi : IntKind.i64.wrap ((i : Int) + 1) = (i : Int) + 1 := by rw [IntKind.wrap_i64]; omega
          clear ht ho hfl
          by_cases ht0 : t.size = 0
          · have et : decide ((t.size : Int) > 0) = false := decide_eq_false (by omega)
            have et' : decide (0 < t.size) = false := decide_eq_false (by omega)
            have hfl0 : Hid (fl = 0) := by
              show fl = 0
              rcases Nat.eq_zero_or_pos fl with h | h
              · exact h
              · have h1 := (tx_pos hTh.out.good hTh.out.fine hlg.out.lt).1 h
                have h2 := hlg.out.le
                have := htl.out
                omega
            clear ht0
            go_wp2_with fail
            go_loopw [16, 17] (fun s16 s17 wr3 => ∃ (z : Int) (o1 : Nat), z ≤ (t.size : Int) - 1 ∧ -1 ≤ z ∧ s17 = .int .i64 z ∧ s16 = .int .i64 (o1 : Int) ∧ OutIs X (tx X i) z o o1 ∧ Below wA.heap.size wA wr3) (fun _ s17 _ => (intOf s17 + 1).toNat)
            case atStart => exact ⟨(t.size : Int) - 1, 0, Int.le_refl _, by omega, by go_num, rfl, .inl ⟨rfl, by have e : ((t.size : Int) - 1).toNat = (tx X i).length - 1 := (by have := htl.out; omega); rw [e]; exact hot.out⟩, b2⟩
            case round =>
              obtain ⟨z, o1, hz, hz1, rfl, rfl, hrel2, b3⟩ := hrel
              by_cases hgo : 1 ≤ z ∧ o1 = 0
              · obtain ⟨hz0, rfl⟩ := hgo
                obtain ⟨m, rfl⟩ : ∃ m : Nat, z = ((m + 1 : Nat) : Int) := ⟨(z - 1).toNat, by omega⟩
                have hotm : Ot X (tx X i) (m + 1) o := by
                  rcases hrel2 with ⟨_, h⟩ | ⟨h, h0⟩
                  · rw [Int.toNat_natCast] at h; exact h
                  · exact absurd h.symm h0
                obtain ⟨zz, hzz⟩ : ∃ zz : Nat, m + 1 = zz := ⟨_, rfl⟩
                have hzzh : Hid (m + 1 = zz) := hzz
                obtain ⟨lo, hlo⟩ : ∃ lo : Nat, t.size - (m + 1) = lo := ⟨_, rfl⟩
                have hm1 : m + 1 ≤ (tx X i).length := by have := htl.out; omega
                have hxt : (t.extract lo t.size).data.toList = lastN (tx X i) (m + 1) := by
                  rw [ext_list, htx.out]
                  unfold lastN
                  have : (tx X i).length = t.size := htl.out
                  rw [this, hlo]
                  exact List.take_of_length_le (by rw [List.length_drop, this]; exact Nat.le_refl _)
                have cF := find_ex A n cap zs (t.extract lo t.size) wr hnh.out (hat3.out.below (hwA.out.trans (b3.mono hwA.out.size))) (by omega)
                rw [hxt] at cF
                have e1 : decide (((m + 1 : Nat) : Int) ≥ 1) = true := decide_eq_true (by omega)
                have e1z : decide ((zz : Int) ≥ 1) = true := decide_eq_true (by omega)
                have e2 : decide (zz ≥ 1) = true := decide_eq_true (by omega)
                have e2' : decide (1 ≤ zz) = true := decide_eq_true (by omega)
                have zs1 : IntKind.i64.wrap ((t.size : Int) - (zz : Int)) = (lo : Int) := by rw [IntKind.wrap_i64]; omega
                have zm1 : IntKind.i64.wrap ((zz : Int) - 1) = (m : Int) := by rw [IntKind.wrap_i64]; omega
                have hloz : (lo : Int) ≤ (t.size : Int) := by omega
                have hlon : lo ≤ t.size := by omega
                rw [hzz] at hz hz0 hz1 hrel2 e1 ⊢
                cases hfl : findL zs (lastN (tx X i) (m + 1)) with
                | some k =>
                  obtain ⟨h0, h1, _⟩ := ot_yes hTh.out hm1 hotm hfl
                  have hfi : findI zs (lastN (tx X i) (m + 1)) = (k : Int) := by unfold findI; rw [hfl]
                  rw [hfi] at cF
                  have e3 : decide ((k : Int) ≥ 0) = true := decide_eq_true (by omega)
                  have cG := find_ex (some ⟨bV, oV, none⟩) ln cp (texts X) (t.extract lo t.size) wr (by rw [texts_length, hXl.out]) (hVh.out.below (hwA.out.trans (b3.mono hwA.out.size))) (by omega)
                  rw [hxt, ← h1, find_node hTh.out.fine hotm.lt] at cG
                  have emx : max (o : Int) 0 = (o : Int) := by omega
                  have hnew : OutIs X (tx X i) (m : Int) o o := .inr ⟨rfl, h0⟩
                  clear hfl hfi h0 h1 hxt hotm hrel2 hlo hm1 hzz
                  go_wp2_with fail
                  refine cF.mono ?_
                  rintro e w4 ⟨rfl, hw⟩
                  rw [hw]
                  clear cF hw w4
                  go_wp2_with fail
                  refine cG.mono ?_
                  rintro e w4 ⟨rfl, hw⟩
                  rw [hw]
                  clear cG hw w4
                  go_wp2_with fail
                  go_roundw
                  case rel => exact ⟨(m : Int), o, by have := hzzh.out; omega, by omega, by go_num, by go_num, hnew, b3⟩
                  case measure => have := hzzh.out; simp [intOf]; omega
                | none =>
                  have hn2 := ot_no hTh.out hotm hfl
                  have hfi : findI zs (lastN (tx X i) (m + 1)) = -1 := by unfold findI; rw [hfl]
                  rw [hfi] at cF
                  have hnew : OutIs X (tx X i) (m : Int) o 0 := .inl ⟨rfl, by rw [Int.toNat_natCast]; exact hn2⟩
                  clear hfl hfi hn2 hxt hotm hrel2 hlo hm1 hzz
                  go_wp2_with fail
                  refine cF.mono ?_
                  rintro e w4 ⟨rfl, hw⟩
                  rw [hw]
                  clear cF hw w4
                  go_wp2_with fail
                  go_roundw
                  case rel => exact ⟨(m : Int), 0, by have := hzzh.out; omega, by omega, by go_num, rfl, hnew, b3⟩
                  case measure => have := hzzh.out; simp [intOf]; omega
              · have ho1 : o1 = o := by
                  rcases hrel2 with ⟨h1, h2⟩ | ⟨h1, _⟩
                  · have hz0 : z.toNat = 0 := by
                      have : ¬ 1 ≤ z := fun h => hgo ⟨h, h1⟩
                      omega
                    rw [hz0] at h2
                    exact h1.trans (ot_zero hTh.out h2).symm
                  · exact h1
                subst ho1
                by_cases hz2 : 1 ≤ z
                · have e1 : decide (z ≥ 1) = true := decide_eq_true hz2
                  have e2 : ((o1 : Int) == 0) = false := by
                    have : o1 ≠ 0 := fun h => hgo ⟨hz2, h⟩
                    simp; omega
                  clear hrel2 hgo
                  have hlk := hlah.out.below (hwA.out.trans (b3.mono hwA.out.size))
                  have cFl := fail_in hlk (k := i) (by rw [hlnh.out]; exact hil)
                  have cOt := out_in hlk (k := i) (by rw [hlnh.out]; exact hil)
                  rw [hflh.out] at cFl
                  rw [hoh.out] at cOt
                  have ne1 : ((fl : Int) != 0) = false := by rw [hfl0.out]; rfl
                  have ne2 : ((o1 : Int) != (o1 : Int)) = false := by simp
                  clear hlk
                  go_wp2_with fail
                  refine cFl.mono ?_
                  rintro e w4 ⟨rfl, hw⟩
                  rw [hw]
                  clear cFl hw w4
                  go_wp2_with fail
                  refine cOt.mono ?_
                  rintro e w4 ⟨rfl, hw⟩
                  rw [hw]
                  clear cOt hw w4
                  go_wp2_with fail
                  go_roundw
                  case rel => exact ⟨i + 1, hil, by go_num, b3⟩
                  case measure => simp [intOf]; omega
                · have e1 : decide (z ≥ 1) = false := decide_eq_false hz2
                  clear hrel2 hgo
                  have hlk := hlah.out.below (hwA.out.trans (b3.mono hwA.out.size))
                  have cFl := fail_in hlk (k := i) (by rw [hlnh.out]; exact hil)
                  have cOt := out_in hlk (k := i) (by rw [hlnh.out]; exact hil)
                  rw [hflh.out] at cFl
                  rw [hoh.out] at cOt
                  have ne1 : ((fl : Int) != 0) = false := by rw [hfl0.out]; rfl
                  have ne2 : ((o1 : Int) != (o1 : Int)) = false := by simp
                  clear hlk
                  go_wp2_with fail
                  refine cFl.mono ?_
                  rintro e w4 ⟨rfl, hw⟩
                  rw [hw]
                  clear cFl hw w4
                  go_wp2_with fail
                  refine cOt.mono ?_
                  rintro e w4 ⟨rfl, hw⟩
                  rw [hw]
                  clear cOt hw w4
                  go_wp2_with fail
                  go_roundw
                  case rel => exact ⟨i + 1, hil, by go_num, b3⟩
                  case measure => simp [intOf]; omega
          · have et : decide ((t.size : Int) > 0) = true := decide_eq_true (by omega)
            have et' : decide (0 < t.size) = true := decide_eq_true (by omega)
            obtain ⟨tm, htm⟩ : ∃ tm : Nat, t.size - 1 = tm := ⟨_, rfl⟩
            have cL := longest_any (some ⟨bV, oV, none⟩) ln cp hTh.out.good t tm wr (by rw [texts_length, hXl.out]) (hVh.out.below (hwA.out.trans (b2.mono hwA.out.size))) (by omega) (by omega) (by omega)
            have ztm : (t.size : Int) - 1 = (tm : Int) := by omega
            have hlg2 : Hid (Lg X (tx X i) tm fl) := by have h := hlg.out; have e : (tx X i).length - 1 = tm := (by have := htl.out; omega); rw [e] at h; exact h
            rw [htx.out] at cL
            clear ht0
            rw [ztm] at zt
            go_wp2_with fail
            refine cL.mono ?_
            rintro e w4 ⟨⟨r, rfl, hr⟩, hw⟩
            rw [hw]
            have hrf : r = fl := Lg.one hTh.out.fine hr hlg2.out
            rw [hrf]
            clear cL hw w4 hr hrf r
            go_wp2_with fail
            go_loopw [16, 17] (fun s16 s17 wr3 => ∃ (z : Int) (o1 : Nat), z ≤ (t.size : Int) - 1 ∧ -1 ≤ z ∧ s17 = .int .i64 z ∧ s16 = .int .i64 (o1 : Int) ∧ OutIs X (tx X i) z o o1 ∧ Below wA.heap.size wA wr3) (fun _ s17 _ => (intOf s17 + 1).toNat)
            case atStart => exact ⟨(t.size : Int) - 1, 0, Int.le_refl _, by omega, by go_num, rfl, .inl ⟨rfl, by have e : ((t.size : Int) - 1).toNat = (tx X i).length - 1 := (by have := htl.out; omega); rw [e]; exact hot.out⟩, b2⟩
            case round =>
              obtain ⟨z, o1, hz, hz1, rfl, rfl, hrel2, b3⟩ := hrel
              by_cases hgo : 1 ≤ z ∧ o1 = 0
              · obtain ⟨hz0, rfl⟩ := hgo
                obtain ⟨m, rfl⟩ : ∃ m : Nat, z = ((m + 1 : Nat) : Int) := ⟨(z - 1).toNat, by omega⟩
                have hotm : Ot X (tx X i) (m + 1) o := by
                  rcases hrel2 with ⟨_, h⟩ | ⟨h, h0⟩
                  · rw [Int.toNat_natCast] at h; exact h
                  · exact absurd h.symm h0
                obtain ⟨zz, hzz⟩ : ∃ zz : Nat, m + 1 = zz := ⟨_, rfl⟩
                have hzzh : Hid (m + 1 = zz) := hzz
                obtain ⟨lo, hlo⟩ : ∃ lo : Nat, t.size - (m + 1) = lo := ⟨_, rfl⟩
                have hm1 : m + 1 ≤ (tx X i).length := by have := htl.out; omega
                have hxt : (t.extract lo t.size).data.toList = lastN (tx X i) (m + 1) := by
                  rw [ext_list, htx.out]
                  unfold lastN
                  have : (tx X i).length = t.size := htl.out
                  rw [this, hlo]
                  exact List.take_of_length_le (by rw [List.length_drop, this]; exact Nat.le_refl _)
                have cF := find_ex A n cap zs (t.extract lo t.size) wr hnh.out (hat3.out.below (hwA.out.trans (b3.mono hwA.out.size))) (by omega)
                rw [hxt] at cF
                have e1 : decide (((m + 1 : Nat) : Int) ≥ 1) = true := decide_eq_true (by omega)
                have e1z : decide ((zz : Int) ≥ 1) = true := decide_eq_true (by omega)
                have e2 : decide (zz ≥ 1) = true := decide_eq_true (by omega)
                have e2' : decide (1 ≤ zz) = true := decide_eq_true (by omega)
                have zs1 : IntKind.i64.wrap ((t.size : Int) - (zz : Int)) = (lo : Int) := by rw [IntKind.wrap_i64]; omega
                have zm1 : IntKind.i64.wrap ((zz : Int) - 1) = (m : Int) := by rw [IntKind.wrap_i64]; omega
                have hloz : (lo : Int) ≤ (t.size : Int) := by omega
                have hlon : lo ≤ t.size := by omega
                rw [hzz] at hz hz0 hz1 hrel2 e1 ⊢
                cases hfl : findL zs (lastN (tx X i) (m + 1)) with
                | some k =>
                  obtain ⟨h0, h1, _⟩ := ot_yes hTh.out hm1 hotm hfl
                  have hfi : findI zs (lastN (tx X i) (m + 1)) = (k : Int) := by unfold findI; rw [hfl]
                  rw [hfi] at cF
                  have e3 : decide ((k : Int) ≥ 0) = true := decide_eq_true (by omega)
                  have cG := find_ex (some ⟨bV, oV, none⟩) ln cp (texts X) (t.extract lo t.size) wr (by rw [texts_length, hXl.out]) (hVh.out.below (hwA.out.trans (b3.mono hwA.out.size))) (by omega)
                  rw [hxt, ← h1, find_node hTh.out.fine hotm.lt] at cG
                  have emx : max (o : Int) 0 = (o : Int) := by omega
                  have hnew : OutIs X (tx X i) (m : Int) o o := .inr ⟨rfl, h0⟩
                  clear hfl hfi h0 h1 hxt hotm hrel2 hlo hm1 hzz
                  go_wp2_with fail
                  refine cF.mono ?_
                  rintro e w4 ⟨rfl, hw⟩
                  rw [hw]
                  clear cF hw w4
                  go_wp2_with fail
                  refine cG.mono ?_
                  rintro e w4 ⟨rfl, hw⟩
                  rw [hw]
                  clear cG hw w4
                  go_wp2_with fail
                  go_roundw
                  case rel => exact ⟨(m : Int), o, by have := hzzh.out; omega, by omega, by go_num, by go_num, hnew, b3⟩
                  case measure => have := hzzh.out; simp [intOf]; omega
                | none =>
                  have hn2 := ot_no hTh.out hotm hfl
                  have hfi : findI zs (lastN (tx X i) (m + 1)) = -1 := by unfold findI; rw [hfl]
                  rw [hfi] at cF
                  have hnew : OutIs X (tx X i) (m : Int) o 0 := .inl ⟨rfl, by rw [Int.toNat_natCast]; exact hn2⟩
                  clear hfl hfi hn2 hxt hotm hrel2 hlo hm1 hzz
                  go_wp2_with fail
                  refine cF.mono ?_
                  rintro e w4 ⟨rfl, hw⟩
                  rw [hw]
                  clear cF hw w4
                  go_wp2_with fail
                  go_roundw
                  case rel => exact ⟨(m : Int), 0, by have := hzzh.out; omega, by omega, by go_num, rfl, hnew, b3⟩
                  case measure => have := hzzh.out; simp [intOf]; omega
              · have ho1 : o1 = o := by
                  rcases hrel2 with ⟨h1, h2⟩ | ⟨h1, _⟩
                  · have hz0 : z.toNat = 0 := by
                      have : ¬ 1 ≤ z := fun h => hgo ⟨h, h1⟩
                      omega
                    rw [hz0] at h2
                    exact h1.trans (ot_zero hTh.out h2).symm
                  · exact h1
                subst ho1
                by_cases hz2 : 1 ≤ z
                · have e1 : decide (z ≥ 1) = true := decide_eq_true hz2
                  have e2 : ((o1 : Int) == 0) = false := by
                    have : o1 ≠ 0 := fun h => hgo ⟨hz2, h⟩
                    simp; omega
                  clear hrel2 hgo
                  have hlk := hlah.out.below (hwA.out.trans (b3.mono hwA.out.size))
                  have cFl := fail_in hlk (k := i) (by rw [hlnh.out]; exact hil)
                  have cOt := out_in hlk (k := i) (by rw [hlnh.out]; exact hil)
                  rw [hflh.out] at cFl
                  rw [hoh.out] at cOt
                  have ne1 : ((fl : Int) != (fl : Int)) = false := by simp
                  have ne2 : ((o1 : Int) != (o1 : Int)) = false := by simp
                  clear hlk
                  go_wp2_with fail
                  refine cFl.mono ?_
                  rintro e w4 ⟨rfl, hw⟩
                  rw [hw]
                  clear cFl hw w4
                  go_wp2_with fail
                  refine cOt.mono ?_
                  rintro e w4 ⟨rfl, hw⟩
                  rw [hw]
                  clear cOt hw w4
                  go_wp2_with fail
                  go_roundw
                  case rel => exact ⟨i + 1, hil, by go_num, b3⟩
                  case measure => simp [intOf]; omega
                · have e1 : decide (z ≥ 1) = false := decide_eq_false hz2
                  clear hrel2 hgo
                  have hlk := hlah.out.below (hwA.out.trans (b3.mono hwA.out.size))
                  have cFl := fail_in hlk (k := i) (by rw [hlnh.out]; exact hil)
                  have cOt := out_in hlk (k := i) (by rw [hlnh.out]; exact hil)
                  rw [hflh.out] at cFl
                  rw [hoh.out] at cOt
                  have ne1 : ((fl : Int) != (fl : Int)) = false := by simp
                  have ne2 : ((o1 : Int) != (o1 : Int)) = false := by simp
                  clear hlk
                  go_wp2_with fail
                  refine cFl.mono ?_
                  rintro e w4 ⟨rfl, hw⟩
                  rw [hw]
                  clear cFl hw w4
                  go_wp2_with fail
                  refine cOt.mono ?_
                  rintro e w4 ⟨rfl, hw⟩
                  rw [hw]
                  clear cOt hw w4
                  go_wp2_with fail
                  go_roundw
                  case rel => exact ⟨i + 1, hil, by go_num, b3⟩
                  case measure => simp [intOf]; omega
        · have hid : decide ((i : Int) < (ln : Int)) = false := decide_eq_false (by omega)
          have hiz : ¬ (i : Int) < (ln : Int) := by omega
          by_cases hk0 : 0 ≤ k0
          · have d1 : decide (k0 ≥ 0) = true := decide_eq_true hk0
            by_cases hkl : k0 < (ln : Int)
            · have d2 : decide (k0 < (ln : Int)) = true := decide_eq_true hkl
              obtain ⟨kn, hkn⟩ : ∃ kn, -1 - k0 = kn := ⟨_, rfl⟩
              have zkn : IntKind.i64.wrap (-1 - k0) = kn := by rw [IntKind.wrap_i64]; omega
              have hout : Hid (kn < 0 ∨ (ln : Int) ≤ kn) := by show _ ∨ _; omega
              clear hk0 hkl hkn
              have hLn : L.length = N.length := hlah.out.len.2.2
              have hln2 : N.length = ln := hlnh.out
              have hlB := hlah.out.below (hwA.out.trans (b2.mono hwA.out.size))
              have hrB := own_below hrowh.out b2
              have hmL : Hid (L.length = m1) := hm1
              have belB : Hid (Below w.heap.size w wr) := belh.out.trans ((hwA.out.trans (b2.mono hwA.out.size)).mono belh.out.size)
              have hbk := BkInts.Book.new (B := wr.heap.size) (w := wr) (Nat.le_refl _)
              have b5 := balloc (Below.refl wr.heap.size wr) (.cells (BkInts.bookCells (.slice none 0 0) (.slice none 0 0)) 42)
              simp only [BkInts.bookCells] at hbk b5
              have cO := order_any (hlB.below b5) (by omega)
              clear b2 hm1 hLn hln2
              go_wp2_with fail
              refine cO.mono ?_
              rintro e w5 ⟨v5, rfl, hr5, d5⟩
              have hr5' : BkInts.Row wr.heap.size w5 (v5, toI L) := BkInts.own_mono (rowL hr5 (by have := hlah.out.len.2.2; omega)) b5.size
              have k5 := b5.trans (d5.mono b5.size)
              obtain ⟨V0, W0, cs0, hb5⟩ := hbk.below d5
              have cA := BkInts.add_call (x := (v5, toI L)) w5 hb5 (by decide) hr5' (fun y hy => (by cases hy)) (by show (toI L).length ≤ _; unfold toI; rw [List.length_map]; have := hmL.out; have := hlah.out.len.2.2; have := hlnh.out; omega) k5.size
              obtain ⟨V5, c5, rfl, -⟩ := BkInts.row_at hr5'
              clear cO hbk b5 hr5 d5 hb5
              go_wp2_with fail
              refine cA.mono ?_
              rintro e w6 ⟨rfl, hbk6, S6, k6'⟩
              have k6 := k5.trans k6'
              have hr6 := S6.row hr5' (by decide) (by decide)
              clear cA S6 k6' hr5' k5
              have cO := order_any (hlB.below k6) (by have := hlnh.out; omega)
              go_wp2_with fail
              refine cO.mono ?_
              rintro e w7 ⟨v7, rfl, hr7, d7⟩
              have hr7' : BkInts.Row w6.heap.size w7 (v7, toI L) := rowL hr7 (by have := hlah.out.len.2.2; omega)
              have hr7w := BkInts.own_mono hr7' k6.size
              have k7 := k6.trans (d7.mono k6.size)
              have hap : ∀ y ∈ [(Value.slice V5 (toI L).length c5, toI L)], BkInts.Apt y.1 v7 := fun y hy => by
                rw [List.mem_singleton] at hy
                subst hy
                exact (BkInts.apt_new (x := (v7, toI L)) hr7' (own_lt hr6)).symm
              obtain ⟨V0, W0, cs0, hb7⟩ := hbk6.below d7
              have cA := BkInts.add_call (x := (v7, toI L)) w7 hb7 (by show 1 < 250; decide) hr7w hap (by show (toI L).length ≤ _; unfold toI; rw [List.length_map]; have := hmL.out; have := hlah.out.len.2.2; have := hlnh.out; omega) k7.size
              obtain ⟨V7, c7, rfl, -⟩ := BkInts.row_at hr7'
              clear cO hr7 d7 hb7 hap hbk6 hr6 hr7'
              go_wp2_with fail
              refine cA.mono ?_
              rintro e w8 ⟨rfl, hbk8, S8, k8'⟩
              have k8 := k7.trans k8'
              clear cA S8 k8' hr7w k7 k6
              have cO := order_any (hlB.below k8) (by have := hlnh.out; omega)
              go_wp2_with fail
              refine cO.mono ?_
              rintro e w9 ⟨v9, rfl, hr9, d9⟩
              have k9 := k8.trans (d9.mono k8.size)
              have hbk9 := hbk8.below d9
              obtain ⟨A1, c1, rfl, a1⟩ := BkInts.row_at (rowL hr9 (by have := hlah.out.len.2.2; omega) : BkInts.Row _ w9 (v9, toI L))
              have hrw : BkInts.Row w3.heap.size w9 (.slice V9 m1 c9, toI L) := own_below (rowM hrB hmL.out) k9
              obtain ⟨A2, c2, e2, a2⟩ := BkInts.row_at hrw
              injection e2 with e21 e22 e23
              subst e21; subst e23
              have hbig : (toI L).length ≤ 4611686018427387904 := by unfold toI; rw [List.length_map]; have := hmL.out; have := hlah.out.len.2.2; have := hlnh.out; omega
              have cQ := BkInts.same_call A1 V9 (toI L).length m1 c1 c9 (toI L) (toI L) w9 rfl e22 a1 a2 hbig (by rw [e22]; exact hbig)
              rw [decide_eq_true (show toI L = toI L from rfl)] at cQ
              clear cO hr9 d9 hbk8 k8 a1 a2 hrw e22
              go_wp2_with fail
              refine cQ.mono ?_
              rintro e w10 ⟨rfl, d10⟩
              have k10 := k9.trans (d10.mono k9.size)
              have hbk10 := hbk9.below d10
              have hlk := hlB.below k10
              have cF := fail_out hlk (k := kn) (by rw [hlnh.out]; exact hout.out)
              have cO := out_out hlk (k := kn) (by rw [hlnh.out]; exact hout.out)
              clear cQ d10 k9 hbk9 hlk
              go_wp2_with fail
              refine cF.mono ?_
              rintro e u ⟨rfl, hu⟩
              rw [hu]
              clear cF hu u
              go_wp2_with fail
              refine cO.mono ?_
              rintro e u ⟨rfl, hu⟩
              rw [hu]
              clear cO hu u
              go_wp2_with fail
              refine (fail_nil 0 w10).mono ?_
              rintro e u ⟨rfl, hu⟩
              rw [hu]
              clear hu u
              go_wp2_with fail
              refine (out_nil 0 w10).mono ?_
              rintro e u ⟨rfl, hu⟩
              rw [hu]
              clear hu u
              go_wp2_with fail
              refine (order_nil w10).mono ?_
              rintro e u ⟨rfl, hu⟩
              rw [hu]
              clear hu u
              go_wp2_with fail
              refine (trie_nil w10).mono ?_
              rintro e u ⟨rfl, hu⟩
              rw [hu]
              clear hu u
              go_wp2_with fail
              refine (BkInts.apart_call w10 hbk10 (by show 2 ≤ 250; decide) (fun x hx => by
                have h := hmL.out; have h2 := hlah.out.len.2.2; have h3 := hlnh.out
                simp only [List.nil_append, List.cons_append, List.mem_cons, List.not_mem_nil, or_false] at hx
                rcases hx with rfl | rfl <;> (show (toI L).length ≤ _; unfold toI; rw [List.length_map]; omega)) k10.size).mono ?_
              rintro e w11 ⟨rfl, d11⟩
              have k11 := belB.out.trans ((k10.trans d11).mono belB.out.size)
              go_wp2_with fail
              go_ret
              exact ⟨rfl, k11⟩
            · have d2 : decide (k0 < (ln : Int)) = false := decide_eq_false hkl
              have hout : Hid (k0 < 0 ∨ (ln : Int) ≤ k0) := by show _ ∨ _; omega
              clear hk0 hkl
              have hLn : L.length = N.length := hlah.out.len.2.2
              have hln2 : N.length = ln := hlnh.out
              have hlB := hlah.out.below (hwA.out.trans (b2.mono hwA.out.size))
              have hrB := own_below hrowh.out b2
              have hmL : Hid (L.length = m1) := hm1
              have belB : Hid (Below w.heap.size w wr) := belh.out.trans ((hwA.out.trans (b2.mono hwA.out.size)).mono belh.out.size)
              have hbk := BkInts.Book.new (B := wr.heap.size) (w := wr) (Nat.le_refl _)
              have b5 := balloc (Below.refl wr.heap.size wr) (.cells (BkInts.bookCells (.slice none 0 0) (.slice none 0 0)) 42)
              simp only [BkInts.bookCells] at hbk b5
              have cO := order_any (hlB.below b5) (by omega)
              clear b2 hm1 hLn hln2
              go_wp2_with fail
              refine cO.mono ?_
              rintro e w5 ⟨v5, rfl, hr5, d5⟩
              have hr5' : BkInts.Row wr.heap.size w5 (v5, toI L) := BkInts.own_mono (rowL hr5 (by have := hlah.out.len.2.2; omega)) b5.size
              have k5 := b5.trans (d5.mono b5.size)
              obtain ⟨V0, W0, cs0, hb5⟩ := hbk.below d5
              have cA := BkInts.add_call (x := (v5, toI L)) w5 hb5 (by decide) hr5' (fun y hy => (by cases hy)) (by show (toI L).length ≤ _; unfold toI; rw [List.length_map]; have := hmL.out; have := hlah.out.len.2.2; have := hlnh.out; omega) k5.size
              obtain ⟨V5, c5, rfl, -⟩ := BkInts.row_at hr5'
              clear cO hbk b5 hr5 d5 hb5
              go_wp2_with fail
              refine cA.mono ?_
              rintro e w6 ⟨rfl, hbk6, S6, k6'⟩
              have k6 := k5.trans k6'
              have hr6 := S6.row hr5' (by decide) (by decide)
              clear cA S6 k6' hr5' k5
              have cO := order_any (hlB.below k6) (by have := hlnh.out; omega)
              go_wp2_with fail
              refine cO.mono ?_
              rintro e w7 ⟨v7, rfl, hr7, d7⟩
              have hr7' : BkInts.Row w6.heap.size w7 (v7, toI L) := rowL hr7 (by have := hlah.out.len.2.2; omega)
              have hr7w := BkInts.own_mono hr7' k6.size
              have k7 := k6.trans (d7.mono k6.size)
              have hap : ∀ y ∈ [(Value.slice V5 (toI L).length c5, toI L)], BkInts.Apt y.1 v7 := fun y hy => by
                rw [List.mem_singleton] at hy
                subst hy
                exact (BkInts.apt_new (x := (v7, toI L)) hr7' (own_lt hr6)).symm
              obtain ⟨V0, W0, cs0, hb7⟩ := hbk6.below d7
              have cA := BkInts.add_call (x := (v7, toI L)) w7 hb7 (by show 1 < 250; decide) hr7w hap (by show (toI L).length ≤ _; unfold toI; rw [List.length_map]; have := hmL.out; have := hlah.out.len.2.2; have := hlnh.out; omega) k7.size
              obtain ⟨V7, c7, rfl, -⟩ := BkInts.row_at hr7'
              clear cO hr7 d7 hb7 hap hbk6 hr6 hr7'
              go_wp2_with fail
              refine cA.mono ?_
              rintro e w8 ⟨rfl, hbk8, S8, k8'⟩
              have k8 := k7.trans k8'
              clear cA S8 k8' hr7w k7 k6
              have cO := order_any (hlB.below k8) (by have := hlnh.out; omega)
              go_wp2_with fail
              refine cO.mono ?_
              rintro e w9 ⟨v9, rfl, hr9, d9⟩
              have k9 := k8.trans (d9.mono k8.size)
              have hbk9 := hbk8.below d9
              obtain ⟨A1, c1, rfl, a1⟩ := BkInts.row_at (rowL hr9 (by have := hlah.out.len.2.2; omega) : BkInts.Row _ w9 (v9, toI L))
              have hrw : BkInts.Row w3.heap.size w9 (.slice V9 m1 c9, toI L) := own_below (rowM hrB hmL.out) k9
              obtain ⟨A2, c2, e2, a2⟩ := BkInts.row_at hrw
              injection e2 with e21 e22 e23
              subst e21; subst e23
              have hbig : (toI L).length ≤ 4611686018427387904 := by unfold toI; rw [List.length_map]; have := hmL.out; have := hlah.out.len.2.2; have := hlnh.out; omega
              have cQ := BkInts.same_call A1 V9 (toI L).length m1 c1 c9 (toI L) (toI L) w9 rfl e22 a1 a2 hbig (by rw [e22]; exact hbig)
              rw [decide_eq_true (show toI L = toI L from rfl)] at cQ
              clear cO hr9 d9 hbk8 k8 a1 a2 hrw e22
              go_wp2_with fail
              refine cQ.mono ?_
              rintro e w10 ⟨rfl, d10⟩
              have k10 := k9.trans (d10.mono k9.size)
              have hbk10 := hbk9.below d10
              have hlk := hlB.below k10
              have cF := fail_out hlk (k := k0) (by rw [hlnh.out]; exact hout.out)
              have cO := out_out hlk (k := k0) (by rw [hlnh.out]; exact hout.out)
              clear cQ d10 k9 hbk9 hlk
              go_wp2_with fail
              refine cF.mono ?_
              rintro e u ⟨rfl, hu⟩
              rw [hu]
              clear cF hu u
              go_wp2_with fail
              refine cO.mono ?_
              rintro e u ⟨rfl, hu⟩
              rw [hu]
              clear cO hu u
              go_wp2_with fail
              refine (fail_nil 0 w10).mono ?_
              rintro e u ⟨rfl, hu⟩
              rw [hu]
              clear hu u
              go_wp2_with fail
              refine (out_nil 0 w10).mono ?_
              rintro e u ⟨rfl, hu⟩
              rw [hu]
              clear hu u
              go_wp2_with fail
              refine (order_nil w10).mono ?_
              rintro e u ⟨rfl, hu⟩
              rw [hu]
              clear hu u
              go_wp2_with fail
              refine (trie_nil w10).mono ?_
              rintro e u ⟨rfl, hu⟩
              rw [hu]
              clear hu u
              go_wp2_with fail
              refine (BkInts.apart_call w10 hbk10 (by show 2 ≤ 250; decide) (fun x hx => by
                have h := hmL.out; have h2 := hlah.out.len.2.2; have h3 := hlnh.out
                simp only [List.nil_append, List.cons_append, List.mem_cons, List.not_mem_nil, or_false] at hx
                rcases hx with rfl | rfl <;> (show (toI L).length ≤ _; unfold toI; rw [List.length_map]; omega)) k10.size).mono ?_
              rintro e w11 ⟨rfl, d11⟩
              have k11 := belB.out.trans ((k10.trans d11).mono belB.out.size)
              go_wp2_with fail
              go_ret
              exact ⟨rfl, k11⟩
          · have d1 : decide (k0 ≥ 0) = false := decide_eq_false hk0
            have hout : Hid (k0 < 0 ∨ (ln : Int) ≤ k0) := by show _ ∨ _; omega
            clear hk0
            have hLn : L.length = N.length := hlah.out.len.2.2
            have hln2 : N.length = ln := hlnh.out
            have hlB := hlah.out.below (hwA.out.trans (b2.mono hwA.out.size))
            have hrB := own_below hrowh.out b2
            have hmL : Hid (L.length = m1) := hm1
            have belB : Hid (Below w.heap.size w wr) := belh.out.trans ((hwA.out.trans (b2.mono hwA.out.size)).mono belh.out.size)
            have hbk := BkInts.Book.new (B := wr.heap.size) (w := wr) (Nat.le_refl _)
            have b5 := balloc (Below.refl wr.heap.size wr) (.cells (BkInts.bookCells (.slice none 0 0) (.slice none 0 0)) 42)
            simp only [BkInts.bookCells] at hbk b5
            have cO := order_any (hlB.below b5) (by omega)
            clear b2 hm1 hLn hln2
            go_wp2_with fail
            refine cO.mono ?_
            rintro e w5 ⟨v5, rfl, hr5, d5⟩
            have hr5' : BkInts.Row wr.heap.size w5 (v5, toI L) := BkInts.own_mono (rowL hr5 (by have := hlah.out.len.2.2; omega)) b5.size
            have k5 := b5.trans (d5.mono b5.size)
            obtain ⟨V0, W0, cs0, hb5⟩ := hbk.below d5
            have cA := BkInts.add_call (x := (v5, toI L)) w5 hb5 (by decide) hr5' (fun y hy => (by cases hy)) (by show (toI L).length ≤ _; unfold toI; rw [List.length_map]; have := hmL.out; have := hlah.out.len.2.2; have := hlnh.out; omega) k5.size
            obtain ⟨V5, c5, rfl, -⟩ := BkInts.row_at hr5'
            clear cO hbk b5 hr5 d5 hb5
            go_wp2_with fail
            refine cA.mono ?_
            rintro e w6 ⟨rfl, hbk6, S6, k6'⟩
            have k6 := k5.trans k6'
            have hr6 := S6.row hr5' (by decide) (by decide)
            clear cA S6 k6' hr5' k5
            have cO := order_any (hlB.below k6) (by have := hlnh.out; omega)
            go_wp2_with fail
            refine cO.mono ?_
            rintro e w7 ⟨v7, rfl, hr7, d7⟩
            have hr7' : BkInts.Row w6.heap.size w7 (v7, toI L) := rowL hr7 (by have := hlah.out.len.2.2; omega)
            have hr7w := BkInts.own_mono hr7' k6.size
            have k7 := k6.trans (d7.mono k6.size)
            have hap : ∀ y ∈ [(Value.slice V5 (toI L).length c5, toI L)], BkInts.Apt y.1 v7 := fun y hy => by
              rw [List.mem_singleton] at hy
              subst hy
              exact (BkInts.apt_new (x := (v7, toI L)) hr7' (own_lt hr6)).symm
            obtain ⟨V0, W0, cs0, hb7⟩ := hbk6.below d7
            have cA := BkInts.add_call (x := (v7, toI L)) w7 hb7 (by show 1 < 250; decide) hr7w hap (by show (toI L).length ≤ _; unfold toI; rw [List.length_map]; have := hmL.out; have := hlah.out.len.2.2; have := hlnh.out; omega) k7.size
            obtain ⟨V7, c7, rfl, -⟩ := BkInts.row_at hr7'
            clear cO hr7 d7 hb7 hap hbk6 hr6 hr7'
            go_wp2_with fail
            refine cA.mono ?_
            rintro e w8 ⟨rfl, hbk8, S8, k8'⟩
            have k8 := k7.trans k8'
            clear cA S8 k8' hr7w k7 k6
            have cO := order_any (hlB.below k8) (by have := hlnh.out; omega)
            go_wp2_with fail
            refine cO.mono ?_
            rintro e w9 ⟨v9, rfl, hr9, d9⟩
            have k9 := k8.trans (d9.mono k8.size)
            have hbk9 := hbk8.below d9
            obtain ⟨A1, c1, rfl, a1⟩ := BkInts.row_at (rowL hr9 (by have := hlah.out.len.2.2; omega) : BkInts.Row _ w9 (v9, toI L))
            have hrw : BkInts.Row w3.heap.size w9 (.slice V9 m1 c9, toI L) := own_below (rowM hrB hmL.out) k9
            obtain ⟨A2, c2, e2, a2⟩ := BkInts.row_at hrw
            injection e2 with e21 e22 e23
            subst e21; subst e23
            have hbig : (toI L).length ≤ 4611686018427387904 := by unfold toI; rw [List.length_map]; have := hmL.out; have := hlah.out.len.2.2; have := hlnh.out; omega
            have cQ := BkInts.same_call A1 V9 (toI L).length m1 c1 c9 (toI L) (toI L) w9 rfl e22 a1 a2 hbig (by rw [e22]; exact hbig)
            rw [decide_eq_true (show toI L = toI L from rfl)] at cQ
            clear cO hr9 d9 hbk8 k8 a1 a2 hrw e22
            go_wp2_with fail
            refine cQ.mono ?_
            rintro e w10 ⟨rfl, d10⟩
            have k10 := k9.trans (d10.mono k9.size)
            have hbk10 := hbk9.below d10
            have hlk := hlB.below k10
            have cF := fail_out hlk (k := k0) (by rw [hlnh.out]; exact hout.out)
            have cO := out_out hlk (k := k0) (by rw [hlnh.out]; exact hout.out)
            clear cQ d10 k9 hbk9 hlk
            go_wp2_with fail
            refine cF.mono ?_
            rintro e u ⟨rfl, hu⟩
            rw [hu]
            clear cF hu u
            go_wp2_with fail
            refine cO.mono ?_
            rintro e u ⟨rfl, hu⟩
            rw [hu]
            clear cO hu u
            go_wp2_with fail
            refine (fail_nil 0 w10).mono ?_
            rintro e u ⟨rfl, hu⟩
            rw [hu]
            clear hu u
            go_wp2_with fail
            refine (out_nil 0 w10).mono ?_
            rintro e u ⟨rfl, hu⟩
            rw [hu]
            clear hu u
            go_wp2_with fail
            refine (order_nil w10).mono ?_
            rintro e u ⟨rfl, hu⟩
            rw [hu]
            clear hu u
            go_wp2_with fail
            refine (trie_nil w10).mono ?_
            rintro e u ⟨rfl, hu⟩
            rw [hu]
            clear hu u
            go_wp2_with fail
            refine (BkInts.apart_call w10 hbk10 (by show 2 ≤ 250; decide) (fun x hx => by
              have h := hmL.out; have h2 := hlah.out.len.2.2; have h3 := hlnh.out
              simp only [List.nil_append, List.cons_append, List.mem_cons, List.not_mem_nil, or_false] at hx
              rcases hx with rfl | rfl <;> (show (toI L).length ≤ _; unfold toI; rw [List.length_map]; omega)) k10.size).mono ?_
            rintro e w11 ⟨rfl, d11⟩
            have k11 := belB.out.trans ((k10.trans d11).mono belB.out.size)
            go_wp2_with fail
            go_ret
            exact ⟨rfl, k11⟩
end Go.Proofs.YtdeeeechdlcdbaaGreat.LtW
