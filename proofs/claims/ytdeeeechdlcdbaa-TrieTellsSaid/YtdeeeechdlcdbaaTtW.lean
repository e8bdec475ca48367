/- The walk of TrieTells. -/
import Derived.Test.YtdeeeechdlcdbaaTtA
import Derived.Test.YtdeeeechdlcdbaaBkBF
import Derived.Deep.QuietTactic
import Derived.BigQuiet
import Derived.IntWalk
set_option linter.unusedVariables false
set_option linter.unusedSimpArgs false
namespace Go.Proofs.Ytdeeeechdlcdbaa.TtW
open Go Go.RowKit Go.Proofs.Ytdeeeechdlcdbaa.Base Go.Proofs.Ytdeeeechdlcdbaa.DiA Go.Proofs.Ytdeeeechdlcdbaa.DiB Go.Proofs.Ytdeeeechdlcdbaa.DiC Go.Proofs.Ytdeeeechdlcdbaa.DiD Go.Proofs.Ytdeeeechdlcdbaa.TrP Go.Proofs.Ytdeeeechdlcdbaa.TrM Go.Proofs.Ytdeeeechdlcdbaa.TrA Go.Proofs.Ytdeeeechdlcdbaa.TrB Go.Proofs.Ytdeeeechdlcdbaa.TrD Go.Proofs.Ytdeeeechdlcdbaa.TrE Go.Proofs.Ytdeeeechdlcdbaa.TgU Go.Proofs.Ytdeeeechdlcdbaa.TrQ Go.Proofs.Ytdeeeechdlcdbaa.TcP Go.Proofs.Ytdeeeechdlcdbaa.TwA Go.Proofs.Ytdeeeechdlcdbaa.TnP Go.Proofs.Ytdeeeechdlcdbaa.TtP Go.Proofs.Ytdeeeechdlcdbaa.TtN Go.Proofs.Ytdeeeechdlcdbaa.TtA
/-- The sons by bytes less than q. -/
def sonsTo (f : Int → Option Nat) (q : Nat) : List Int := ((List.range q).map fun (n : Nat) => (n : Int)).filter fun c => (f c).isSome
theorem sonsTo_all (f : Int → Option Nat) : sonsTo f 256 = sonsL f := rfl
theorem sonsTo_succ (f : Int → Option Nat) (q : Nat) : sonsTo f (q + 1) = sonsTo f q ++ if (f (q : Int)).isSome then [(q : Int)] else [] := by
  unfold sonsTo
  rw [List.range_succ, List.map_append, List.filter_append]
  congr 1
  simp only [List.map_cons, List.map_nil, List.filter_cons, List.filter_nil]
theorem sonsTo_len (f : Int → Option Nat) (q : Nat) : (sonsTo f q).length ≤ q := by
  unfold sonsTo
  refine Nat.le_trans (List.length_filter_le _ _) ?_
  simp
set_option maxRecDepth 20000 in
set_option maxHeartbeats 1000000 in
theorem tells_few (A : Option Addr) (n cap : Nat) (nd c : Int) (w : World) (hf : Calls Try.prog 23 #[.slice A n cap] w fun e w' => e = .returned (.bool false) ∧ w' = w) :
    Calls Try.prog 7 #[.slice A n cap, .int .i64 nd, .int .u8 c] w fun e w' => e = .returned (.bool true) ∧ Below w.heap.size w w' := by
  go_enter Try.func7, Try.ntmps7
  go_wp2_with fail
  refine hf.mono ?_
  rintro e w1 ⟨rfl, hw⟩
  rw [hw]
  clear hf hw
  go_wp2_with fail
  refine (alive_call _).mono ?_
  rintro e w2 ⟨rfl, b2⟩
  go_wp2_with fail
  go_ret
  exact ⟨rfl, b2⟩
set_option maxRecDepth 20000 in
set_option maxHeartbeats 4000000 in
theorem tells_in (A : Option Addr) (n cap : Nat) (zs : List ByteArray) (nd c : Int) (hc : 0 ≤ c ∧ c ≤ 255) (w : World) (hf : Calls Try.prog 23 #[.slice A n cap] w fun e w' => e = .returned (.bool true) ∧ w' = w)
    (hn : n = zs.length) (hat : StrsAt w A zs) (hn1 : n ≤ 110) (htot : total zs ≤ 1300) :
    Calls Try.prog 7 #[.slice A n cap, .int .i64 nd, .int .u8 c] w fun e w' => e = .returned (.bool true) ∧ Below w.heap.size w w' := by
  have hnh : Hid (n = zs.length) := hn
  have hch : Hid (0 ≤ c ∧ c ≤ 255) := hc
  clear hn hc
  go_enter Try.func7, Try.ntmps7
  go_wp2_with fail
  refine hf.mono ?_
  rintro e w1 ⟨rfl, hw⟩
  rw [hw]
  clear hf hw w1
  go_wp2_with fail
  refine (alive_call _).mono ?_
  rintro e w1 ⟨rfl, b1⟩
  have hat1 := hat.below b1
  have bel := b1
  clear b1
  go_wp2_with fail
  refine (make_any A n cap zs w1 hnh.out hat1 (by omega)).mono ?_
  rintro e w2 ⟨b2, ⟨_, rfl⟩ | ⟨okd, pd, rfl, _, hdt⟩⟩
  · have bel2 := bstep bel b2
    clear hat1 bel b2 hat
    go_wp2_with fail
    go_ret
    exact ⟨rfl, bel2⟩
  have bel2 := bstep bel b2
  have hdist : Hid (∀ j k, j < k → k < zs.length → zs.getD j ByteArray.empty ≠ zs.getD k ByteArray.empty) := okD_apart okd
  clear hat1 bel b2 okd
  have hzl : zs.length ≤ 1000 := by rw [← hnh.out]; omega
  go_wp2_with fail
  refine (TrD.new_any _ pd zs w2 hdt hzl (by omega)).mono ?_
  rintro e w3 ⟨b3, px, NX, mx, rfl, hX, hNX, hlX⟩
  have bel3 := bstep bel2 b3
  clear hdt bel2 b3 hzl
  have hat3 := hat.below bel3
  have cN := nodes_any A n cap zs w3 hnh.out hat3 hn1 htot
  have hG0 := build_good zs zs.length
  have hF0 := fine_build zs zs.length
  have hW0 : ∀ i, i < (build zs zs.length).length → FindIs zs ((build zs zs.length).getD i noPn).text ((build zs zs.length).getD i noPn).word := fun i hi => find_word zs hdist.out hi
  have hsm0 : Small 1300 (build zs zs.length) := small_build zs (fun k => Nat.le_trans (size_total zs k) htot) _
  have eX : NX.length = (build zs zs.length).length := by rw [← hNX, List.length_map]
  generalize hX0 : build zs zs.length = X at hNX hG0 hF0 hW0 hsm0 eX cN
  obtain ⟨m, hm⟩ : ∃ m, X.length = m := ⟨_, rfl⟩
  have hNXh : Hid (NX.map (·.p) = X) := hNX
  have eXh : Hid (NX.length = m) := by show NX.length = m; rw [← hm]; exact eX
  have hmh : Hid (X.length = m) := hm
  have hGh : Hid (TrP.Good zs zs.length X) := hG0
  have hFh : Hid (Fine X) := hF0
  have hWh : Hid (∀ i, i < X.length → FindIs zs (X.getD i noPn).text (X.getD i noPn).word) := hW0
  have hsm : Hid (Small 1300 X) := hsm0
  have hml : m ≤ 1301 := by rw [← hm, ← eX]; omega
  rw [texts_length, hm] at cN
  clear hX0 hsm0 hG0 hF0 hW0 hNX eX hlX htot hat hm
  go_wp2_with fail
  refine cN.mono ?_
  rintro e w4 ⟨v9, rfl, hrow9, b4⟩
  have bel4 := bstep bel3 b4
  have hX4 := hX.below b4
  have hat4 := hat3.below b4
  obtain ⟨V9, c9, rfl, hs9⟩ := own_cells hrow9 (by rw [texts_length]; exact hmh.out)
  clear cN bel3 hX hat3 b4 hrow9
  have hbk := BkBytes.Book.new (B := w4.heap.size) (w := w4) (Nat.le_refl _)
  have b5 := balloc (Below.refl w4.heap.size w4) (.cells (BkBytes.bookCells (.slice none 0 0) (.slice none 0 0)) 56)
  simp only [BkBytes.bookCells] at hbk b5
  go_wp2_with fail
  go_loopw [46] (fun s wr => ∃ (i : Nat) (ls : List BkBytes.L), i ≤ m ∧ s = .int .i64 i ∧ BkBytes.Book w4.heap.size wr w4.heap.size ls ∧ ls.length ≤ i ∧ ls.length ≤ 20 ∧ (∀ x ∈ ls, x.2.length ≤ 256) ∧ Below w4.heap.size w4 wr) (fun s _ => m - (intOf s).toNat)
  case atStart => exact ⟨0, [], Nat.zero_le _, rfl, hbk, Nat.le_refl _, by simp, fun x hx => (by cases hx), b5⟩
  case round =>
    obtain ⟨i, ls, hi, rfl, hbr, hl1, hl2, hl3, br⟩ := hrel
    clear hbk b5
    by_cases hlt : i < m
    · have hkd : decide ((i : Int) < (m : Int)) = true := decide_eq_true (by omega)
      obtain ⟨w5, rfl⟩ : ∃ w5, w5 = wr := ⟨_, rfl⟩
      have hiX : i < X.length := by rw [hmh.out]; exact hlt
      obtain ⟨b9, o9, hV9, _, hc9⟩ := hs9 (by rw [texts_length, hmh.out]; omega)
      subst hV9
      have x9 := pw_cell_below br (hc9 i (by rw [texts_length]; exact hiX))
      rw [texts_getD hiX] at x9
      obtain ⟨y, hy⟩ : ∃ y, (X.getD i noPn).text = y := ⟨_, rfl⟩
      rw [hy] at x9
      have hys : y.size ≤ 1300 := by rw [← hy]; exact hsm.out i hiX
      have hyh : Hid ((X.getD i noPn).text = y) := hy
      obtain ⟨f, hf⟩ : ∃ f, Hid ((X.getD i noPn).sons = f) := ⟨_, Lib.hid rfl⟩
      have hiXh : Hid (i < X.length) := hiX
      clear hc9 hy hiX
      go_wp2_with fail
      go_loopw [13, 14] (fun v s wr2 => ∃ q : Nat, q ≤ 256 ∧ s = .int .i64 q ∧ wr2.ownsRow w5.heap.size 5 1 v (sonsTo f q).length ((sonsTo f q).map (Value.int .u8)) ∧ Below w5.heap.size w5 wr2) (fun _ s _ => 256 - (intOf s).toNat)
      case atStart => exact ⟨0, by omega, rfl, World.ownsRow_nil _ _ _ _, Below.refl _ _⟩
      case round =>
        obtain ⟨q, hq, rfl, hrow, b6⟩ := hrel
        have br6 : Below w4.heap.size w4 wr := br.trans (b6.mono br.size)
        by_cases hq2 : q < 256
        · have hqd : decide ((q : Int) < 256) = true := decide_eq_true (by omega)
          have hqb : 0 ≤ (q : Int) ∧ (q : Int) ≤ 255 := by omega
          obtain ⟨z, hz⟩ : ∃ z, strOfNums [(q : Int)] = z := ⟨_, rfl⟩
          have hcv := conv1 (wr.alloc (.cells #[.int .u8 (q : Int)] 5)) wr.heap.size (q : Int) (cell_of (heap_new _ _) rfl)
          rw [hz] at hcv
          have hzs : z.size = 1 := by rw [← hz]; rfl
          have hlb : ¬ (9223372036854775807 < y.size + z.size) := by omega
          have z1 : IntKind.u8.wrap (q : Int) = (q : Int) := by rw [IntKind.wrap_u8]; omega
          have z2 : IntKind.i64.wrap ((q : Int) + 1) = (q : Int) + 1 := by rw [IntKind.wrap_i64]; omega
          have b7 : Below w4.heap.size w4 (wr.alloc (.cells #[.int .u8 (q : Int)] 5)) := br6.alloc br6.size _
          have cF := find_big (some ⟨b9, o9, none⟩) m c9 (texts X) (y ++ z) _ (by rw [texts_length]; exact hmh.out.symm) (hs9.below b7) (by omega)
          have hyz : (y ++ z).data.toList = tx X i ++ [UInt8.ofNat (q : Int).toNat] := by
            unfold tx
            rw [app_list, hyh.out, ← hz]; rfl
          have hfs : ∀ r, FindIs (texts X) (y ++ z) r → r = match f (q : Int) with | some x => (x : Int) | none => -1 := fun r hr => by
            have := find_son hGh.out hFh.out hiXh.out hqb hyz hr
            rw [hf.out] at this
            exact this
          have hfsh : Hid (∀ r, FindIs (texts X) (y ++ z) r → r = match f (q : Int) with | some x => (x : Int) | none => -1) := hfs
          clear hfs hyz hz hzs
          go_wp2_with fail
          refine cF.mono ?_
          rintro e w7 ⟨⟨r, rfl, hr⟩, hw7⟩
          rw [hw7]
          have hrr := hfsh.out r hr
          clear cF hw7 hfsh hr hcv
          have c7 : Below w5.heap.size w5 (wr.alloc (.cells #[.int .u8 (q : Int)] 5)) := b6.alloc b6.size _
          have own7 := hrow.alloc (.cells #[.int .u8 (q : Int)] 5)
          have hsl := sonsTo_len f q
          have hss0 := sonsTo_succ f q
          clear hrow b6 br6
          cases hfq : f (q : Int) with
          | some x =>
            rw [hfq] at hrr hss0
            simp only at hrr
            have hss : Hid (sonsTo f (q + 1) = sonsTo f q ++ [(q : Int)]) := hss0
            subst hrr
            have hrd : decide ((x : Int) ≥ 0) = true := decide_eq_true (by omega)
            obtain ⟨i3, hi3, hy0, hy1, hy2⟩ := info_parts BkBytes.infoE
            generalize wr.alloc (.cells #[.int .u8 (q : Int)] 5) = wa at b7 c7 own7 ⊢
            have ow3 := own7.alloc (.cells #[.int .u8 (q : Int)] 5)
            have c8 : Below w5.heap.size w5 (wa.alloc (.cells #[.int .u8 (q : Int)] 5)) := c7.alloc c7.size _
            have hsz3 := c8.size
            have hh3 := heap_new wa (.cells #[.int .u8 (q : Int)] 5)
            clear hss0
            go_wp2_with (first | (at_builtin; refine wpList_append_own _ rfl (.tmp 65) (.tmp 68) 41 rfl w5.heap.size 5 i3 _ 1 1 Try.underlying41 hi3 hy0 hy1 hy2 rfl (by decide) _ (sonsTo f q).length ((sonsTo f q).map (Value.int .u8)) rfl ow3 ⟨wa.heap.size, 0, none⟩ 1 1 [.int .u8 (q : Int)] rfl rfl ?k1 ?k2 ?k3 ?k4 ?k5 ?_))
            case k1 => intro j u hj; rw [Addr.add_lit, Nat.zero_add]; exact cell_of hh3 (by simpa using hj)
            case k2 => intro u hu; simp at hu; subst hu; rfl
            case k3 => unfold maxLen; omega
            case k4 => omega
            case k5 => exact hsz3
            intro v8 w8 own8 hg8 _
            have e8 : Below w5.heap.size w5 w8 := c8.grown hg8 hsz3 (own_ge ow3)
            have b8 : Below w4.heap.size w4 w8 := br.trans (e8.mono br.size)
            have own8' : w8.ownsRow w5.heap.size 5 1 v8 (sonsTo f q ++ [(q : Int)]).length ((sonsTo f q ++ [(q : Int)]).map (Value.int .u8)) := by
              rw [List.length_append, List.map_append]; exact own8
            clear own8 hg8 ow3 c8 hh3 own7 b7 c7
            by_cases t7p : (i : Int) % 7 = 0
            · have t7 : ((i : Int) % 7 == 0) = true := by simp [t7p]
              have cX := next_some (hX4.below b8) (by have := eXh.out; omega) hNXh.out hiXh.out hqb (by rw [hf.out]; exact hfq)
              go_wp2_with fail
              refine cX.mono ?_
              rintro e w9 ⟨rfl, d9⟩
              have own9 := own_below own8' d9
              have e9 := e8.trans (d9.mono e8.size)
              clear cX d9
              go_wp2_with fail
              go_roundw
              case rel => exact ⟨q + 1, by omega, by go_num, by rw [hss.out]; exact own9, e9⟩
              case measure => simp [intOf]; omega
            · have t7 : ((i : Int) % 7 == 0) = false := by simp [t7p]
              cases tc : ((q : Int) == c) with
              | true =>
                have cX := next_some (hX4.below b8) (by have := eXh.out; omega) hNXh.out hiXh.out hqb (by rw [hf.out]; exact hfq)
                go_wp2_with fail
                refine cX.mono ?_
                rintro e w9 ⟨rfl, d9⟩
                have own9 := own_below own8' d9
                have e9 := e8.trans (d9.mono e8.size)
                clear cX d9
                go_wp2_with fail
                go_roundw
                case rel => exact ⟨q + 1, by omega, by go_num, by rw [hss.out]; exact own9, e9⟩
                case measure => simp [intOf]; omega
              | false =>
                go_wp2_with fail
                go_roundw
                case rel => exact ⟨q + 1, by omega, by go_num, by rw [hss.out]; exact own8', e8⟩
                case measure => simp [intOf]; omega
          | none =>
            rw [hfq] at hrr hss0
            simp only at hrr
            have hss : Hid (sonsTo f (q + 1) = sonsTo f q) := by show _ = _; rw [hss0]; simp
            subst hrr
            have hrd : decide ((-1 : Int) ≥ 0) = false := rfl
            clear hss0
            by_cases t7p : (i : Int) % 7 = 0
            · have t7 : ((i : Int) % 7 == 0) = true := by simp [t7p]
              have cX := next_none (hX4.below b7) (by have := eXh.out; omega) hNXh.out hiXh.out hqb (by rw [hf.out]; exact hfq)
              go_wp2_with fail
              refine cX.mono ?_
              rintro e w9 ⟨rfl, d9⟩
              have own9 := own_below own7 d9
              have e9 := c7.trans (d9.mono c7.size)
              clear cX d9
              go_wp2_with fail
              go_roundw
              case rel => exact ⟨q + 1, by omega, by go_num, by rw [hss.out]; exact own9, e9⟩
              case measure => simp [intOf]; omega
            · have t7 : ((i : Int) % 7 == 0) = false := by simp [t7p]
              cases tc : ((q : Int) == c) with
              | true =>
                have cX := next_none (hX4.below b7) (by have := eXh.out; omega) hNXh.out hiXh.out hqb (by rw [hf.out]; exact hfq)
                go_wp2_with fail
                refine cX.mono ?_
                rintro e w9 ⟨rfl, d9⟩
                have own9 := own_below own7 d9
                have e9 := c7.trans (d9.mono c7.size)
                clear cX d9
                go_wp2_with fail
                go_roundw
                case rel => exact ⟨q + 1, by omega, by go_num, by rw [hss.out]; exact own9, e9⟩
                case measure => simp [intOf]; omega
              | false =>
                go_wp2_with fail
                go_roundw
                case rel => exact ⟨q + 1, by omega, by go_num, by rw [hss.out]; exact own7, c7⟩
                case measure => simp [intOf]; omega
        · have hqd : decide ((q : Int) < 256) = false := decide_eq_false (by omega)
          have hqe : q = 256 := by omega
          subst hqe
          rw [sonsTo_all] at hrow
          clear hq hq2
          have hiN : i < NX.length := by have := eXh.out; omega
          have hnN : NX[i]? = some NX[i] := List.getElem?_eq_getElem hiN
          have hpf : (NX[i]).p.sons = f := by rw [← getD_of hNXh.out hnN]; exact hf.out
          have cS := Sn.sons_in (hX4.below br6) (by have := eXh.out; omega) hnN
          rw [hpf] at cS
          clear hnN hpf
          obtain ⟨A13, c13, rfl, -⟩ := BkBytes.row_at (zs := sonsL f) hrow
          go_wp2_with fail
          refine cS.mono ?_
          rintro e w8 ⟨vs, rfl, hrs, b8⟩
          obtain ⟨As, cs2, rfl, -⟩ := BkBytes.row_at (zs := sonsL f) hrs
          have hrow8 := own_below hrow b8
          have br8 := br6.trans (b8.mono br6.size)
          have hb6 := hbr.below b6
          have hb8 := hb6.below b8
          clear cS
          by_cases h20 : i < 20
          · have h20d : decide ((i : Int) < 20) = true := decide_eq_true (by omega)
            have hap : ∀ y ∈ ls, BkBytes.Apt y.1 (.slice As (sonsL f).length cs2) := by
              obtain ⟨V, W, cs, hb⟩ := hb6
              exact fun y hy => (BkBytes.apt_new (x := (.slice As (sonsL f).length cs2, sonsL f)) hrs (own_lt (hb.rows.own y hy))).symm
            have hrsB := BkBytes.own_mono hrs br6.size
            obtain ⟨V, W, cs, hb⟩ := hb8
            have cA := BkBytes.add_call (x := (.slice As (sonsL f).length cs2, sonsL f)) w8 hb (by omega) hrsB hap (by have := sonsL_len f; show (sonsL f).length ≤ _; omega) br8.size
            clear hb hb6 hap hrsB
            go_wp2_with fail
            refine cA.mono ?_
            rintro e w9 ⟨rfl, hbk9, S9, b9x⟩
            have hrow9 := S9.row hrow8 (by decide) (by decide)
            have hrs9 := S9.row hrs (by decide) (by decide)
            have br9 := br8.trans b9x
            clear cA
            have cT := text_in (hX4.below br9) (by have := eXh.out; omega) hNXh.out i hiXh.out
            rw [hyh.out] at cT
            go_wp2_with fail
            refine cT.mono ?_
            rintro e x1 ⟨rfl, d1⟩
            have k1 := br9.trans (d1.mono br9.size)
            have r1 := own_below hrow9 d1
            have s1 := own_below hrs9 d1
            have bk1 := hbk9.below d1
            clear cT
            have cD := depth_in (hX4.below k1) (by have := eXh.out; omega) hNXh.out i hiXh.out (d := y.size) (by rw [hyh.out])
            go_wp2_with fail
            refine cD.mono ?_
            rintro e x2 ⟨rfl, d2⟩
            have k2 := k1.trans (d2.mono k1.size)
            have r2 := own_below r1 d2
            have s2 := own_below s1 d2
            have bk2 := bk1.below d2
            clear cD
            have hww := hWh.out i hiXh.out
            rw [hyh.out] at hww
            have cW := word_in (hX4.below k2) (by have := eXh.out; omega) hNXh.out i hiXh.out
            generalize (X.getD i noPn).word = wd at cW hww
            go_wp2_with fail
            refine cW.mono ?_
            rintro e x3 ⟨rfl, d3⟩
            have k3 := k2.trans (d3.mono k2.size)
            have r3 := own_below r2 d3
            have s3 := own_below s2 d3
            have bk3 := bk2.below d3
            clear cW
            have cF := find_big A n cap zs y x3 hnh.out (hat4.below k3) (by omega)
            go_wp2_with fail
            refine cF.mono ?_
            rintro e x4 ⟨⟨r, rfl, hr⟩, hx4⟩
            rw [hx4]
            obtain rfl := find_one hdist.out hww hr
            clear cF hx4 hr hww
            obtain ⟨A1, c1, e1, a1⟩ := BkBytes.row_at (zs := sonsL f) r3
            obtain ⟨A2, c2, e2, a2⟩ := BkBytes.row_at (zs := sonsL f) s3
            injection e1 with e11 e12 e13
            injection e2 with e21 e22 e23
            subst e11; subst e13; subst e21; subst e23
            have cQ := BkBytes.same_call As A13 (sonsL f).length (sonsL f).length cs2 c13 (sonsL f) (sonsL f) x3 rfl rfl a2 a1 (by have := sonsL_len f; omega) (by have := sonsL_len f; omega)
            rw [decide_eq_true (show sonsL f = sonsL f from rfl)] at cQ
            go_wp2_with fail
            refine cQ.mono ?_
            rintro e x5 ⟨rfl, d5⟩
            have k5 := k3.trans (d5.mono k3.size)
            have bk5 := bk3.below d5
            have z3 : IntKind.i64.wrap ((i : Int) + 1) = (i : Int) + 1 := by rw [IntKind.wrap_i64]; omega
            go_wp2_with fail
            go_roundw
            case rel => exact ⟨i + 1, ls ++ [(_, sonsL f)], by omega, by go_num, bk5, by simp; omega, by simp; omega, (fun x hx => by rcases List.mem_append.1 hx with h | h; exact hl3 x h; rw [List.mem_singleton.1 h]; exact sonsL_len f), k5⟩
            case measure => simp [intOf]; omega
          · have h20d : decide ((i : Int) < 20) = false := decide_eq_false (by omega)
            have cT := text_in (hX4.below br8) (by have := eXh.out; omega) hNXh.out i hiXh.out
            rw [hyh.out] at cT
            go_wp2_with fail
            refine cT.mono ?_
            rintro e x1 ⟨rfl, d1⟩
            have k1 := br8.trans (d1.mono br8.size)
            have r1 := own_below hrow8 d1
            have s1 := own_below hrs d1
            have bk1 := hb8.below d1
            clear cT
            have cD := depth_in (hX4.below k1) (by have := eXh.out; omega) hNXh.out i hiXh.out (d := y.size) (by rw [hyh.out])
            go_wp2_with fail
            refine cD.mono ?_
            rintro e x2 ⟨rfl, d2⟩
            have k2 := k1.trans (d2.mono k1.size)
            have r2 := own_below r1 d2
            have s2 := own_below s1 d2
            have bk2 := bk1.below d2
            clear cD
            have hww := hWh.out i hiXh.out
            rw [hyh.out] at hww
            have cW := word_in (hX4.below k2) (by have := eXh.out; omega) hNXh.out i hiXh.out
            generalize (X.getD i noPn).word = wd at cW hww
            go_wp2_with fail
            refine cW.mono ?_
            rintro e x3 ⟨rfl, d3⟩
            have k3 := k2.trans (d3.mono k2.size)
            have r3 := own_below r2 d3
            have s3 := own_below s2 d3
            have bk3 := bk2.below d3
            clear cW
            have cF := find_big A n cap zs y x3 hnh.out (hat4.below k3) (by omega)
            go_wp2_with fail
            refine cF.mono ?_
            rintro e x4 ⟨⟨r, rfl, hr⟩, hx4⟩
            rw [hx4]
            obtain rfl := find_one hdist.out hww hr
            clear cF hx4 hr hww
            obtain ⟨A1, c1, e1, a1⟩ := BkBytes.row_at (zs := sonsL f) r3
            obtain ⟨A2, c2, e2, a2⟩ := BkBytes.row_at (zs := sonsL f) s3
            injection e1 with e11 e12 e13
            injection e2 with e21 e22 e23
            subst e11; subst e13; subst e21; subst e23
            have cQ := BkBytes.same_call As A13 (sonsL f).length (sonsL f).length cs2 c13 (sonsL f) (sonsL f) x3 rfl rfl a2 a1 (by have := sonsL_len f; omega) (by have := sonsL_len f; omega)
            rw [decide_eq_true (show sonsL f = sonsL f from rfl)] at cQ
            go_wp2_with fail
            refine cQ.mono ?_
            rintro e x5 ⟨rfl, d5⟩
            have k5 := k3.trans (d5.mono k3.size)
            have bk5 := bk3.below d5
            have z3 : IntKind.i64.wrap ((i : Int) + 1) = (i : Int) + 1 := by rw [IntKind.wrap_i64]; omega
            go_wp2_with fail
            go_roundw
            case rel => exact ⟨i + 1, ls, by omega, by go_num, bk5, by omega, by omega, hl3, k5⟩
            case measure => simp [intOf]; omega
    · have hkd : decide ((i : Int) < (m : Int)) = false := decide_eq_false (by omega)
      have hbr0 : Below wr.heap.size wr wr := Below.refl _ _
      by_cases hnd : 0 ≤ nd ∧ nd < (m : Int)
      · have hd1 : decide (nd ≥ 0) = true := decide_eq_true hnd.1
        have hd2 : decide (nd < (m : Int)) = true := decide_eq_true hnd.2
        clear hnd
        have hout1 : (m : Int) < 0 ∨ (NX.length : Int) ≤ (m : Int) := by have := eXh.out; omega
        have c1 := next_pv hch.out (at_out (hX4.below br) hout1)
        go_wp2_with fail
        refine c1.mono ?_
        rintro e u1 ⟨rfl, d1⟩
        have br1 := br.trans (d1.mono br.size)
        have hb1 := hbr0.trans (d1.mono hbr0.size)
        clear c1 d1
        have c2 := next_pv hch.out (at_nil u1)
        go_wp2_with fail
        refine c2.mono ?_
        rintro e u2 ⟨rfl, d2⟩
        have br2 := br1.trans (d2.mono br1.size)
        have hb2 := hb1.trans (d2.mono hb1.size)
        clear c2 d2
        have c3 := len_any (hX4.below br2)
        rw [eXh.out] at c3
        go_wp2_with fail
        refine c3.mono ?_
        rintro e u3 ⟨rfl, hq⟩
        rw [hq]
        clear c3 hq
        have c4 := text_pv (at_out (hX4.below br2) hout1)
        go_wp2_with fail
        refine c4.mono ?_
        rintro e u4 ⟨rfl, d4⟩
        have br4 := br2.trans (d4.mono br2.size)
        have hb4 := hb2.trans (d4.mono hb2.size)
        clear c4 d4
        have c5 := (show Calls Try.prog 33 _ _ (fun e w' => e = .returned (.int .i64 0) ∧ Below u4.heap.size u4 w') from depth_pv (at_out (hX4.below br4) hout1))
        go_wp2_with fail
        refine c5.mono ?_
        rintro e u5 ⟨rfl, d5⟩
        have br5 := br4.trans (d5.mono br4.size)
        have hb5 := hb4.trans (d5.mono hb4.size)
        clear c5 d5
        have c6 := word_pv (at_out (hX4.below br5) hout1)
        go_wp2_with fail
        refine c6.mono ?_
        rintro e u6 ⟨rfl, d6⟩
        have br6 := br5.trans (d6.mono br5.size)
        have hb6 := hb5.trans (d6.mono hb5.size)
        clear c6 d6
        have c7 := sons_pv (at_out (hX4.below br6) hout1)
        go_wp2_with fail
        refine c7.mono ?_
        rintro e u7 ⟨rfl, d7⟩
        have br7 := br6.trans (d7.mono br6.size)
        have hb7 := hb6.trans (d7.mono hb6.size)
        clear c7 d7
        have c8 := len_nil u7
        go_wp2_with fail
        refine c8.mono ?_
        rintro e u8 ⟨rfl, hq⟩
        rw [hq]
        clear c8 hq
        have c9 := word_pv (at_nil u7)
        go_wp2_with fail
        refine c9.mono ?_
        rintro e u9 ⟨rfl, d9⟩
        have br9 := br7.trans (d9.mono br7.size)
        have hb9 := hb7.trans (d9.mono hb7.size)
        clear c9 d9
        have c10 := text_pv (at_nil u9)
        go_wp2_with fail
        refine c10.mono ?_
        rintro e u10 ⟨rfl, d10⟩
        have br10 := br9.trans (d10.mono br9.size)
        have hb10 := hb9.trans (d10.mono hb9.size)
        clear c10 d10
        have cE := BkBytes.apart_call u10 (BkBytes.Book.below hbr hb10) (by omega) (fun x hx => Nat.le_trans (hl3 x hx) (by decide)) br10.size
        go_wp2_with fail
        refine cE.mono ?_
        rintro e uE ⟨rfl, dE⟩
        go_wp2_with fail
        go_ret
        exact ⟨rfl, bel4.trans ((br10.trans dE).mono bel4.size)⟩
      · have hd12 : decide (nd ≥ 0) = false ∨ (decide (nd ≥ 0) = true ∧ decide (nd < (m : Int)) = false) := by
          by_cases h : 0 ≤ nd
          · exact .inr ⟨decide_eq_true h, decide_eq_false (by omega)⟩
          · exact .inl (decide_eq_false (by omega))
        rcases hd12 with hd1 | ⟨hd1, hd2⟩
        · have hnd2 : nd < 0 ∨ (m : Int) ≤ nd := by omega
          clear hnd
          have hout1 : nd < 0 ∨ (NX.length : Int) ≤ nd := by have := eXh.out; omega
          have c1 := next_pv hch.out (at_out (hX4.below br) hout1)
          go_wp2_with fail
          refine c1.mono ?_
          rintro e u1 ⟨rfl, d1⟩
          have br1 := br.trans (d1.mono br.size)
          have hb1 := hbr0.trans (d1.mono hbr0.size)
          clear c1 d1
          have c2 := next_pv hch.out (at_nil u1)
          go_wp2_with fail
          refine c2.mono ?_
          rintro e u2 ⟨rfl, d2⟩
          have br2 := br1.trans (d2.mono br1.size)
          have hb2 := hb1.trans (d2.mono hb1.size)
          clear c2 d2
          have c3 := len_any (hX4.below br2)
          rw [eXh.out] at c3
          go_wp2_with fail
          refine c3.mono ?_
          rintro e u3 ⟨rfl, hq⟩
          rw [hq]
          clear c3 hq
          have c4 := text_pv (at_out (hX4.below br2) hout1)
          go_wp2_with fail
          refine c4.mono ?_
          rintro e u4 ⟨rfl, d4⟩
          have br4 := br2.trans (d4.mono br2.size)
          have hb4 := hb2.trans (d4.mono hb2.size)
          clear c4 d4
          have c5 := (show Calls Try.prog 33 _ _ (fun e w' => e = .returned (.int .i64 0) ∧ Below u4.heap.size u4 w') from depth_pv (at_out (hX4.below br4) hout1))
          go_wp2_with fail
          refine c5.mono ?_
          rintro e u5 ⟨rfl, d5⟩
          have br5 := br4.trans (d5.mono br4.size)
          have hb5 := hb4.trans (d5.mono hb4.size)
          clear c5 d5
          have c6 := word_pv (at_out (hX4.below br5) hout1)
          go_wp2_with fail
          refine c6.mono ?_
          rintro e u6 ⟨rfl, d6⟩
          have br6 := br5.trans (d6.mono br5.size)
          have hb6 := hb5.trans (d6.mono hb5.size)
          clear c6 d6
          have c7 := sons_pv (at_out (hX4.below br6) hout1)
          go_wp2_with fail
          refine c7.mono ?_
          rintro e u7 ⟨rfl, d7⟩
          have br7 := br6.trans (d7.mono br6.size)
          have hb7 := hb6.trans (d7.mono hb6.size)
          clear c7 d7
          have c8 := len_nil u7
          go_wp2_with fail
          refine c8.mono ?_
          rintro e u8 ⟨rfl, hq⟩
          rw [hq]
          clear c8 hq
          have c9 := word_pv (at_nil u7)
          go_wp2_with fail
          refine c9.mono ?_
          rintro e u9 ⟨rfl, d9⟩
          have br9 := br7.trans (d9.mono br7.size)
          have hb9 := hb7.trans (d9.mono hb7.size)
          clear c9 d9
          have c10 := text_pv (at_nil u9)
          go_wp2_with fail
          refine c10.mono ?_
          rintro e u10 ⟨rfl, d10⟩
          have br10 := br9.trans (d10.mono br9.size)
          have hb10 := hb9.trans (d10.mono hb9.size)
          clear c10 d10
          have cE := BkBytes.apart_call u10 (BkBytes.Book.below hbr hb10) (by omega) (fun x hx => Nat.le_trans (hl3 x hx) (by decide)) br10.size
          go_wp2_with fail
          refine cE.mono ?_
          rintro e uE ⟨rfl, dE⟩
          go_wp2_with fail
          go_ret
          exact ⟨rfl, bel4.trans ((br10.trans dE).mono bel4.size)⟩
        · have hnd2 : nd < 0 ∨ (m : Int) ≤ nd := by omega
          clear hnd
          have hout1 : nd < 0 ∨ (NX.length : Int) ≤ nd := by have := eXh.out; omega
          have c1 := next_pv hch.out (at_out (hX4.below br) hout1)
          go_wp2_with fail
          refine c1.mono ?_
          rintro e u1 ⟨rfl, d1⟩
          have br1 := br.trans (d1.mono br.size)
          have hb1 := hbr0.trans (d1.mono hbr0.size)
          clear c1 d1
          have c2 := next_pv hch.out (at_nil u1)
          go_wp2_with fail
          refine c2.mono ?_
          rintro e u2 ⟨rfl, d2⟩
          have br2 := br1.trans (d2.mono br1.size)
          have hb2 := hb1.trans (d2.mono hb1.size)
          clear c2 d2
          have c3 := len_any (hX4.below br2)
          rw [eXh.out] at c3
          go_wp2_with fail
          refine c3.mono ?_
          rintro e u3 ⟨rfl, hq⟩
          rw [hq]
          clear c3 hq
          have c4 := text_pv (at_out (hX4.below br2) hout1)
          go_wp2_with fail
          refine c4.mono ?_
          rintro e u4 ⟨rfl, d4⟩
          have br4 := br2.trans (d4.mono br2.size)
          have hb4 := hb2.trans (d4.mono hb2.size)
          clear c4 d4
          have c5 := (show Calls Try.prog 33 _ _ (fun e w' => e = .returned (.int .i64 0) ∧ Below u4.heap.size u4 w') from depth_pv (at_out (hX4.below br4) hout1))
          go_wp2_with fail
          refine c5.mono ?_
          rintro e u5 ⟨rfl, d5⟩
          have br5 := br4.trans (d5.mono br4.size)
          have hb5 := hb4.trans (d5.mono hb4.size)
          clear c5 d5
          have c6 := word_pv (at_out (hX4.below br5) hout1)
          go_wp2_with fail
          refine c6.mono ?_
          rintro e u6 ⟨rfl, d6⟩
          have br6 := br5.trans (d6.mono br5.size)
          have hb6 := hb5.trans (d6.mono hb5.size)
          clear c6 d6
          have c7 := sons_pv (at_out (hX4.below br6) hout1)
          go_wp2_with fail
          refine c7.mono ?_
          rintro e u7 ⟨rfl, d7⟩
          have br7 := br6.trans (d7.mono br6.size)
          have hb7 := hb6.trans (d7.mono hb6.size)
          clear c7 d7
          have c8 := len_nil u7
          go_wp2_with fail
          refine c8.mono ?_
          rintro e u8 ⟨rfl, hq⟩
          rw [hq]
          clear c8 hq
          have c9 := word_pv (at_nil u7)
          go_wp2_with fail
          refine c9.mono ?_
          rintro e u9 ⟨rfl, d9⟩
          have br9 := br7.trans (d9.mono br7.size)
          have hb9 := hb7.trans (d9.mono hb7.size)
          clear c9 d9
          have c10 := text_pv (at_nil u9)
          go_wp2_with fail
          refine c10.mono ?_
          rintro e u10 ⟨rfl, d10⟩
          have br10 := br9.trans (d10.mono br9.size)
          have hb10 := hb9.trans (d10.mono hb9.size)
          clear c10 d10
          have cE := BkBytes.apart_call u10 (BkBytes.Book.below hbr hb10) (by omega) (fun x hx => Nat.le_trans (hl3 x hx) (by decide)) br10.size
          go_wp2_with fail
          refine cE.mono ?_
          rintro e uE ⟨rfl, dE⟩
          go_wp2_with fail
          go_ret
          exact ⟨rfl, bel4.trans ((br10.trans dE).mono bel4.size)⟩
end Go.Proofs.Ytdeeeechdlcdbaa.TtW
